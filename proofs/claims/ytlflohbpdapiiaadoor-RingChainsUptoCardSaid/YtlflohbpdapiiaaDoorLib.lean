/- slices.Insert of one text at the head, and slices.Clone, told of rows that are wholly one's own. -/
import Derived.Test.YtlflohbpdapiiaaDoorSep
import Derived.Test.YtlflohbpdapiiaaDoorShelf
set_option linter.unusedVariables false
namespace Go.Proofs.YtlflohbpdapiiaaDoor.Libs
open Go.RowKit Go.Proofs.YtlflohbpdapiiaaDoorW.PrintWords Go.Proofs.YtlflohbpdapiiaaDoor.Sep

theorem one_map (xs : List ByteArray) : ∀ v ∈ xs.map Value.string, v.oneCell' = true := by
  intro v hv
  obtain ⟨x, _, rfl⟩ := List.mem_map.1 hv
  rfl
theorem get_map (xs : List ByteArray) (j : Nat) (u : Value) (h : (xs.map Value.string)[j]? = some u) : j < xs.length ∧ u = .string (xs.getD j ByteArray.empty) := by
  have hj : j < xs.length := by
    have := (List.getElem?_eq_some_iff.1 h).1
    simpa using this
  refine ⟨hj, ?_⟩
  simp [hj] at h
  rw [← h, List.getD_eq_getElem?_getD, List.getElem?_eq_getElem hj]
  rfl

set_option maxHeartbeats 800000 in
/-- slices.Insert(s, 0, t): s's row may be written, or a new one is made. -/
theorem insert0 (v : Value) (xs : List ByteArray) (t : ByteArray) (w : World) (hown : Own w v xs) (hn : xs.length ≤ 100000) :
    Calls Tryd.prog 42 #[v, .int .i64 0, .slice (some ⟨w.heap.size, 0, none⟩) 1 1] (w.alloc (.cells #[.string t] 9)) fun e w' =>
      ∃ v', e = .returned v' ∧ Own w' v' (t :: xs) ∧ Upd (fun k => v.ownBlock = some k) w w' ∧ (∀ k, v'.ownBlock = some k → v.ownBlock = some k ∨ w.heap.size ≤ k) := by
  have hv0 : ∀ j u, ([Value.string t])[j]? = some u → (w.alloc (.cells #[.string t] 9)).cell? ⟨w.heap.size, 0 + j, none⟩ = some u := by
    intro j u hu
    match j, hu with
    | 0, hu => simpa using hu
  have hv1 : ∀ v ∈ [Value.string t], v.oneCell' = true := by intro v hv; simp at hv; subst hv; rfl
  have hwa : Upd (fun k => v.ownBlock = some k) w (w.alloc (.cells #[.string t] 9)) := (Upd.refl _ w).alloc _
  have hown' : Own (w.alloc (.cells #[.string t] 9)) v xs := hown.upd ((Upd.refl No w).alloc _) (fun _ _ h => h)
  by_cases h0 : xs.length = 0
  · obtain rfl : xs = [] := List.eq_nil_of_length_eq_zero h0
    obtain ⟨A, c, rfl, hc⟩ := hown.form
    simp only [List.length_nil] at hc ⊢
    by_cases hroom : 1 ≤ c
    · rcases hown.2 with ⟨hs, _⟩ | ⟨g, cap, cur, hs, _, hh, hl, hm, hsz, _⟩
      · injection hs with _ _ h3; omega
      · injection hs with h1 h2 h3
        subst h1; subst h3
        have hg : g < w.heap.size := (Array.getElem?_eq_some_iff.1 hh).1
        have hh' : (w.alloc (.cells #[.string t] 9)).heap[g]? = some (.cells cur 9 (0, 0)) := (Below.heap_alloc _ _ _ hg).trans hh
        have K := Any2.slices_Insert_string_end_room insLays g 0 0 c w.heap.size 0 1 1 [.string t] (w.alloc (.cells #[.string t] 9)) (by omega) (by omega) (by unfold maxLen at hm; omega) rfl
          (fun j hj => by rw [cell_of_row _ g _ cur 9 (0, 0) hh']; rw [Array.getElem?_eq_getElem (by omega)]; rfl)
          (fun j hj => by simp [World.frozen?, hh']) hv0 hv1
        refine (show Calls Tryd.prog 42 _ _ _ from K).mono ?_
        rintro e w' ⟨rfl, rfl⟩
        obtain ⟨cur', h4, h5, h6⟩ := setCells_row [Value.string t] 0 _ cur hh' (by simp; omega)
        refine ⟨_, rfl, ⟨by simp, .inr ⟨g, c, cur', rfl, Nat.zero_le _, h4, by simpa using hroom, hm, by rw [h5]; exact hsz, ?_⟩⟩, hwa.setCells (.inl rfl) _ _, fun k hk => .inl hk⟩
        rw [h6]; simp
    · have hc0 : c = 0 := by omega
      subst hc0
      have K := Any2.slices_Insert_string_end_grow insLays A 0 0 w.heap.size 0 1 1 [] [.string t] (w.alloc (.cells #[.string t] 9)) (by omega) (by omega) (by omega) (by omega) rfl rfl (fun _ => rfl) (by intro a _ j v h; simp at h) hv0 hv1
      refine (show Calls Tryd.prog 42 _ _ _ from K).mono ?_
      rintro e w' ⟨rfl, rfl⟩
      have hge : 0 + 1 ≤ grownCap (w.alloc (.cells #[.string t] 9)) (0 + 1) 0 9 := grownCap_ge (w.alloc (.cells #[.string t] 9)) (0 + 1) 0 9
      refine ⟨_, rfl, ⟨by simp, .inr ⟨_, _, _, rfl, Nat.zero_le _, heap_alloc_new _ _, hge, grownCap_le_maxLen _ _ _ _ (by unfold maxLen; omega), ?_, by simp⟩⟩, hwa.drew.alloc _, fun k hk => .inr ?_⟩
      · have e : (insRen.t 9) = 9 := rfl
        rw [e] at *
        generalize grownCap (w.alloc (.cells #[.string t] 9)) (0 + 1) 0 9 = G at *
        simp [size_zeroCells, Value.cells]
        omega
      · simp [Value.ownBlock] at hk; omega
  · obtain ⟨g, c, rfl, hc, hcells, hfr⟩ := hown'.some_ (by omega)
    rcases hown'.2 with ⟨hs, _⟩ | ⟨g', cap, cur, hs, _, hh, hl, hm, hsz, htake⟩
    · cases hs
    injection hs with h1 h2 h3
    injection h1 with h1
    injection h1 with h1
    subst h1; subst h3
    have hg : g < w.heap.size := hown.lt g rfl
    have hcs : ∀ j u, (xs.map Value.string)[j]? = some u → (w.alloc (.cells #[.string t] 9)).cell? ⟨g, 0 + j, none⟩ = some u := by
      intro j u hu
      obtain ⟨hj, rfl⟩ := get_map xs j u hu
      rw [Nat.zero_add]
      exact hcells j hj
    by_cases hroom : xs.length + 1 ≤ c
    · have K := Any2.slices_Insert_string_shift insLays g 0 xs.length c 0 w.heap.size 0 1 1 (xs.map Value.string) [.string t] (w.alloc (.cells #[.string t] 9)) (by omega) (by omega) hroom (by unfold maxLen at hm; omega) (by omega) (by simp) rfl hcs
        (fun j hj => by rw [cell_of_row _ g _ cur 9 (0, 0) hh]; rw [Array.getElem?_eq_getElem (by omega)]; rfl)
        (fun j hj => hfr _) hv0 (one_map xs) hv1 9 9 1 cur.size (by unfold World.shape?; rw [heap_alloc_new]; rfl) (by simp [World.shape?, hh]) (by omega) (Blk.frozen (Blk.new _ _ _) _) (Blk.frozen (Blk.new _ _ _) _)
      refine (show Calls Tryd.prog 42 _ _ _ from K).mono ?_
      rintro e w' ⟨rfl, rfl⟩
      obtain ⟨cur1, h4, h5, h6⟩ := setCells_row (List.drop 0 (xs.map Value.string)) (0 + (0 + 1)) (w.alloc (.cells #[.string t] 9)).drew cur hh (by simp; omega)
      obtain ⟨cur2, h7, h8, h9⟩ := setCells_row [Value.string t] (0 + 0) _ cur1 h4 (by simp; omega)
      refine ⟨_, rfl, ⟨by simp, .inr ⟨g, c, cur2, rfl, Nat.zero_le _, h7, by simpa using hroom, hm, by rw [h8, h5]; exact hsz, ?_⟩⟩, (hwa.drew.setCells (.inl rfl) _ _).setCells (.inl rfl) _ _, fun k hk => .inl hk⟩
      rw [h9, h6]
      simp
      rw [show (Array.toList cur).take 1 = [(cur.toList.take 1).headD default] from ?_]
      · simp
      · have : 0 < cur.toList.length := by rw [Array.length_toList]; omega
        match cur.toList, this with
        | a :: r, _ => simp
    · have K := Any2.slices_Insert_string_grow insLays g 0 xs.length c 0 w.heap.size 0 1 1 (xs.map Value.string) [.string t] (w.alloc (.cells #[.string t] 9)) (by omega) (by omega) hc (by omega) (by omega) (by simp) rfl hcs hv0 (one_map xs) hv1
      refine (show Calls Tryd.prog 42 _ _ _ from K).mono ?_
      rintro e w' ⟨rfl, rfl⟩
      have e9 : insRen.t 9 = 9 := rfl
      have hge : xs.length + 1 ≤ grownCap (w.alloc (.cells #[.string t] 9)) (xs.length + 1) c 9 := grownCap_ge _ _ _ _
      have hgm : grownCap (w.alloc (.cells #[.string t] 9)) (xs.length + 1) c 9 ≤ maxLen := grownCap_le_maxLen _ _ _ _ (by unfold maxLen; omega)
      rw [e9]
      generalize grownCap (w.alloc (.cells #[.string t] 9)) (xs.length + 1) c 9 = G at hge hgm ⊢
      generalize hcur : (((xs.map Value.string).take 0).toArray ++ Builtin.zeroCells (Value.string { data := #[] }).cells (xs.length + 1 - 0) ++ Builtin.zeroCells (Value.string { data := #[] }).cells (G - (xs.length + 1))) = cur0
      have hs0 : cur0.size = G := by
        rw [← hcur]
        simp [size_zeroCells, Value.cells]
        omega
      generalize hw1 : w.alloc (.cells #[.string t] 9) = w1 at hwa ⊢
      obtain ⟨cur1, h4, h5, h6⟩ := setCells_row [Value.string t] 0 (w1.alloc (.cells cur0 9)).drew cur0 (heap_alloc_new w1 _) (by simp; omega)
      obtain ⟨cur2, h7, h8, h9⟩ := setCells_row (List.drop 0 (xs.map Value.string)) (0 + 1) ((w1.alloc (.cells cur0 9)).drew.setCells w1.heap.size 0 [Value.string t]).drew cur1 h4 (by simp; omega)
      have hsz2 : w.heap.size ≤ w1.heap.size := hwa.size
      refine ⟨_, rfl, ⟨by simp, .inr ⟨_, G, cur2, rfl, Nat.zero_le _, h7, by simpa using hge, hgm, by rw [h8, h5, hs0, Nat.mul_one], ?_⟩⟩, (((hwa.alloc _).drew.setCells (.inr hsz2) _ _).drew).setCells (.inr hsz2) _ _, fun k hk => .inr ?_⟩
      · rw [h9, h6]
        simp
      · simp [Value.ownBlock] at hk; omega

/-- slices.Clone: nil of nil, else a row of its own. -/
theorem clone (v : Value) (xs : List ByteArray) (w : World) (hown : Own w v xs) (hn : xs.length ≤ 100000) :
    Calls Tryd.prog 29 #[v] w fun e w' => ∃ v', e = .returned v' ∧ Own w' v' xs ∧ (∀ k, v'.ownBlock = some k → w.heap.size ≤ k) ∧ Below w.heap.size w w' := by
  by_cases h0 : xs.length = 0
  · obtain rfl : xs = [] := List.eq_nil_of_length_eq_zero h0
    obtain ⟨A, c, rfl, hc⟩ := hown.form
    cases A with
    | none =>
      refine (show Calls Tryd.prog 29 _ _ _ from Any.slices_Clone_string_nil cloneLays 0 c w).mono ?_
      rintro e w' ⟨rfl, rfl⟩
      exact ⟨_, rfl, Own.nil _, fun k hk => by simp [Value.ownBlock] at hk, Below.refl _ _⟩
    | some a =>
      refine (show Calls Tryd.prog 29 _ _ _ from Any.slices_Clone_string_zero cloneLays a c w).mono ?_
      rintro e w' ⟨v', rfl, h1, _, h2⟩
      exact ⟨_, rfl, Own.of_base h1, own_ge h1, h2⟩
  · obtain ⟨g, c, rfl, hc, hcells, hfr⟩ := hown.some_ (by omega)
    refine (show Calls Tryd.prog 29 _ _ _ from Any.slices_Clone_string cloneLays g 0 xs.length c xs w (Nat.le_refl _) (by omega) (fun j hj => by rw [Nat.zero_add]; exact hcells j hj)).mono ?_
    rintro e w' ⟨v', rfl, h1, _, h2⟩
    rw [List.take_length] at h1
    exact ⟨_, rfl, Own.of_base h1, own_ge h1, h2⟩
end Go.Proofs.YtlflohbpdapiiaaDoor.Libs
