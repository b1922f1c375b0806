/- A row of texts of one's own that may begin anywhere in its block (a slice that has been cut at its head and is appended to). -/
import Derived.Test.YtjghfdhahkokhaaDoorGoesH
import Derived.ArgAppend
set_option linter.unusedVariables false
namespace Go.Proofs.YtjghfdhahkokhaaDoor
open Go.RowKit Go.Proofs.YtjghfdhahkokhaaDoorW.PrintWords Go.Proofs.YtjghfdhahkokhaaDoor.Sep Go.Proofs.YtjghfdhahkokhaaDoor.Libs
namespace Hist
def OwnO (w : World) (v : Value) (xs : List ByteArray) : Prop :=
  (v = .slice none 0 0 ∧ xs = []) ∨ ∃ g off cap cur, v = .slice (some ⟨g, off, none⟩) xs.length cap ∧ w.heap[g]? = some (.cells cur 9 (0, 0)) ∧ xs.length ≤ cap ∧ cap ≤ maxLen ∧ cur.size = off + cap ∧ ∀ j, j < xs.length → cur[off + j]? = some (.string (xs.getD j E))
section
variable {w w' : World} {v : Value} {xs : List ByteArray}
theorem OwnO.nil (w : World) : OwnO w (.slice none 0 0) [] := .inl ⟨rfl, rfl⟩
theorem OwnO.lt (h : OwnO w v xs) : ∀ k, v.ownBlock = some k → k < w.heap.size := by
  intro k hk
  rcases h with ⟨rfl, _⟩ | ⟨g, off, cap, cur, rfl, hh, _⟩
  · simp [Value.ownBlock] at hk
  · have : g = k := by simpa [Value.ownBlock] using hk
    subst this
    exact (Array.getElem?_eq_some_iff.1 hh).1
theorem OwnO.keep (h : OwnO w v xs) (hk : ∀ k, v.ownBlock = some k → w'.heap[k]? = w.heap[k]?) : OwnO w' v xs := by
  rcases h with h | ⟨g, off, cap, cur, rfl, hh, r⟩
  · exact .inl h
  · exact .inr ⟨g, off, cap, cur, rfl, (hk g (by simp [Value.ownBlock])).trans hh, r⟩
theorem OwnO.upd {S : Nat → Prop} (h : OwnO w v xs) (u : Upd S w w') (hn : ∀ k, v.ownBlock = some k → ¬ S k) : OwnO w' v xs := h.keep fun k hk => u.block k (h.lt k hk) (hn k hk)
theorem OwnO.cell_ {g off n c k : Nat} {y : ByteArray} (h : OwnO w (.slice (some ⟨g, off, none⟩) n c) xs) (hk : k < xs.length) (hy : xs.getD k E = y) : w.cell? ⟨g, off + k, none⟩ = some (.string y) := by
  rcases h with ⟨e, _⟩ | ⟨g', off', cap, cur, e, hh, _, _, _, hc⟩
  · cases e
  · injection e with e1 e2 e3
    injection e1 with e1
    injection e1 with e1 e4
    subst e1; subst e4
    rw [cell_of_row w g (off + k) cur 9 (0, 0) hh, hc k hk, hy]
theorem OwnO.form (h : OwnO w v xs) : ∃ A c, v = .slice A xs.length c ∧ xs.length ≤ c := by
  rcases h with ⟨rfl, rfl⟩ | ⟨g, off, cap, cur, rfl, _, hl, _⟩
  · exact ⟨none, 0, rfl, by simp⟩
  · exact ⟨_, _, rfl, hl⟩
theorem OwnO.some_ (h : OwnO w v xs) (h0 : 0 < xs.length) : ∃ g off c, v = .slice (some ⟨g, off, none⟩) xs.length c ∧ xs.length ≤ c := by
  rcases h with ⟨rfl, rfl⟩ | ⟨g, off, cap, cur, rfl, _, hl, _⟩
  · simp at h0
  · exact ⟨g, off, cap, rfl, hl⟩
theorem add_off (g off j : Nat) : (⟨g, off, none⟩ : Addr).add j = ⟨g, off + j, none⟩ := by unfold Addr.add; split <;> simp_all
theorem OwnO.reads {A : Option Addr} {n c : Nat} (h : OwnO w (.slice A n c) xs) : Reads w w.heap.size 1 A n (xs.map Value.string) := by
  rcases h with ⟨e, rfl⟩ | ⟨g, off, cap, cur, e, hh, hl, hm, hs, hc⟩
  · injection e with e1 e2 e3
    subst e1; subst e2
    exact Reads.none_
  · injection e with e1 e2 e3
    subst e1; subst e2; subst e3
    refine ⟨by simp, fun _ => ⟨⟨g, off, none⟩, rfl, (Array.getElem?_eq_some_iff.1 hh).1, fun j u hu => ?_⟩⟩
    obtain ⟨hj, rfl⟩ := get_map xs j u hu
    rw [add_off, cell_of_row w g (off + j) cur 9 (0, 0) hh, hc j hj]
/-- Cut at its head. -/
theorem OwnO.tail {g off n c : Nat} (h : OwnO w (.slice (some ⟨g, off, none⟩) n c) xs) (h2 : 2 ≤ xs.length) : OwnO w (.slice (some ⟨g, off + 1, none⟩) (n - 1) (c - 1)) (xs.drop 1) := by
  rcases h with ⟨e, _⟩ | ⟨g', off', cap, cur, e, hh, hl, hm, hs, hc⟩
  · cases e
  · injection e with e1 e2 e3
    injection e1 with e1
    injection e1 with e1 e4
    subst e1; subst e4; subst e2; subst e3
    refine .inr ⟨g, off + 1, c - 1, cur, by rw [List.length_drop], hh, by rw [List.length_drop]; omega, by omega, by omega, fun j hj => ?_⟩
    rw [List.length_drop] at hj
    rw [show off + 1 + j = off + (j + 1) by omega, hc (j + 1) (by omega)]
    simp [List.getD]
theorem OwnO.ofOwn (h : Own w v xs) : OwnO w v xs := by
  rcases h.2 with ⟨rfl, h0⟩ | ⟨g, cap, cur, rfl, _, hh, hl, hm, hsz, ht⟩
  · exact .inl ⟨rfl, List.eq_nil_of_length_eq_zero h0⟩
  · refine .inr ⟨g, 0, cap, cur, rfl, hh, hl, hm, by omega, fun j hj => ?_⟩
    have e : (xs.map Value.string)[j]? = some (.string (xs.getD j ByteArray.empty)) := by simp [List.getD, hj]
    rw [← ht, List.getElem?_take, Nat.mul_one, if_pos hj] at e
    simpa using e
theorem OwnO.append1 (h : OwnO w v xs) (t : ByteArray) (hn : xs.length ≤ 100000) :
    ∃ v' w', (Builtin.append_ #[22, 22] 22 #[v, .slice (some ⟨w.heap.size, 0, none⟩) 1 1]).run Tryd.prog (w.alloc (.cells #[.string t] 9)) = .ok v' w' ∧ OwnO w' v' (xs ++ [t]) ∧ Upd (fun k => v.ownBlock = some k) w w' ∧ (v'.ownBlock = v.ownBlock ∨ ∀ k, v'.ownBlock = some k → w.heap.size ≤ k) := by
  obtain ⟨i0, hi0, hz0, hz1, hz2⟩ := info_parts info9
  have hR := (reads_new w t)
  have hnews : ∀ j u, ([Value.string t])[j]? = some u → (w.alloc (.cells #[.string t] 9)).cell? ((⟨w.heap.size, 0, none⟩ : Addr).add j) = some u := cell_one_new w (.string t) 9
  rcases h with ⟨rfl, rfl⟩ | ⟨g, off, cap, cur, rfl, hh, hl, hm, hs, hc⟩
  · obtain ⟨v', w', hr, h1, h2, h3⟩ := run_append_any (P := Tryd.prog) (w.alloc (.cells #[.string t] 9)) 0 22 22 9 i0 _ 1 16 Tryd.underlying22 hi0 hz0 hz1 hz2 rfl (by omega) (.slice none 0 0) 0 [] ⟨by simp, .inl ⟨rfl, rfl⟩⟩ _ (some ⟨w.heap.size, 0, none⟩) 1 1 [.string t] hR (by simp [Value.oneCell']) (by simp only [maxLen]; omega) (by omega) (Nat.zero_le _)
    refine ⟨v', w', hr, OwnO.ofOwn (by simpa [Own] using h1), ((Upd.refl _ w).alloc _).then_ (Upd.grown (S := fun k => (Value.slice none 0 0).ownBlock = some k) h2 (fun k e => e)) (fun k hk => .inl hk), ?_⟩
    rcases h3 with e | e
    · exact .inl e
    · refine .inr (fun k hk => ?_)
      rw [e] at hk
      injection hk with hk
      simp at hk
      omega
  · have hg : g < w.heap.size := (Array.getElem?_eq_some_iff.1 hh).1
    have hh' : (w.alloc (.cells #[.string t] 9)).heap[g]? = some (.cells cur 9 (0, 0)) := (Below.heap_alloc w _ g hg).trans hh
    by_cases hroom : xs.length + 1 ≤ cap
    · have hr := run_append_room_cells (P := Tryd.prog) (w.alloc (.cells #[.string t] 9)) 22 22 9 i0 Tryd.underlying22 hi0 g off xs.length cap ⟨w.heap.size, 0, none⟩ 1 1 [.string t] (by rw [hz1]; rfl) hnews (by simp [Value.oneCell']) hroom
        (fun j hj => by
          simp at hj
          subst hj
          rw [hz1, cell_of_row _ g _ cur 9 (0, 0) hh', Array.getElem?_eq_getElem (by omega)]
          rfl)
        (fun j hj => by simp [World.frozen?, hh'])
      rw [hz1] at hr
      obtain ⟨cur', h4, h5, h6⟩ := setCells_row [Value.string t] (off + xs.length * 1) _ cur hh' (by simp; omega)
      refine ⟨_, _, hr, .inr ⟨g, off, cap, cur', by rw [List.length_append]; rfl, h4, by rw [List.length_append]; exact hroom, hm, by rw [h5]; exact hs, fun j hj => ?_⟩, ((Upd.refl _ w).alloc _).setCells (.inl (by simp [Value.ownBlock])) _ _, .inl (by simp [Value.ownBlock])⟩
      rw [← Array.getElem?_toList, h6]
      rw [List.length_append, List.length_singleton] at hj
      have hlen : (cur.toList.take (off + xs.length * 1)).length = off + xs.length := by
        have e : cur.toList.length = cur.size := Array.length_toList
        rw [List.length_take, e, hs]
        omega
      by_cases hjx : j < xs.length
      · rw [List.append_assoc, List.getElem?_append_left (by omega), List.getElem?_take, if_pos (by omega), Array.getElem?_toList, hc j hjx]
        simp [List.getD, hjx, List.getElem?_append_left]
      · obtain rfl : j = xs.length := by omega
        rw [List.append_assoc, List.getElem?_append_right (by omega), hlen, Nat.sub_self]
        simp [List.getD]
    · obtain ⟨v', w', hr, h1, h2⟩ := run_append_arg_grows (P := Tryd.prog) (w.alloc (.cells #[.string t] 9)) 22 22 9 i0 _ 1 16 Tryd.underlying22 hi0 hz0 hz1 hz2 rfl (by omega) ⟨g, off, none⟩ xs.length cap (xs.map Value.string) (by simp)
        (fun j u hu => by
          obtain ⟨hj, rfl⟩ := get_map xs j u hu
          rw [add_off, cell_of_row _ g _ cur 9 (0, 0) hh', hc j hj])
        ⟨w.heap.size, 0, none⟩ 1 1 [.string t] (by simp) hnews (by omega) (by simp only [maxLen]; omega) (by omega)
      refine ⟨v', w', hr, OwnO.ofOwn (Own.ofAppend (own_weaken h1 (Nat.zero_le _)) rfl), ((Upd.refl _ w).alloc _).then_ (Upd.grown (S := No) h2 (fun k e => by cases e)) (fun k hk => hk.elim), .inr (fun k hk => ?_)⟩
      have := own_base h1 k hk
      simp at this
      omega
end
end Hist
end Go.Proofs.YtjghfdhahkokhaaDoor
