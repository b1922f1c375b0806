/- The document's Merge, its cases joined. -/
import Derived.Test.YtkpcnfchhnfpoaaDoorDocW
import Derived.Test.YtkpcnfchhnfpoaaDoorMergeQ
set_option linter.unusedVariables false
namespace Go.Proofs.YtkpcnfchhnfpoaaDoor
open Go.RowKit Go.Proofs.YtkpcnfchhnfpoaaDoorW.PrintWords Go.Proofs.YtkpcnfchhnfpoaaDoor.Sep
namespace Log
set_option maxHeartbeats 6400000
set_option maxRecDepth 100000
theorem dm_neg1 (w : World) (x : Int) (hx : x < 0) (ao ai : ByteArray) (b : Delta) : Calls Tryd.prog 15 #[.agg #[.int .i64 x, .string ao, .string ai], dagg b] w fun e w' => e = .returned (.tuple #[dagg D0, .bool false]) ∧ Below w.heap.size w w' := by
  obtain ⟨y, bo, bi⟩ := b
  unfold dagg
  dsimp only
  have b1 : decide (x < 0) = true := by simp [hx]
  go_enter Tryd.func15, Tryd.ntmps15
  go_wp2
  go_returns
  exact ⟨rfl, (by repeat' (first | with_reducible exact Below.refl _ _ | with_reducible refine Below.drewN' ?_ _ | with_reducible refine below_drew ?_ | with_reducible refine below_far ?_ _ _ (by first | (simp; done) | (simp; omega)) | (with_reducible refine Below.alloc ?_ (by first | (simp; done) | (simp; omega)) _)))⟩
theorem dm_neg2 (w : World) (x y : Int) (hx : ¬ x < 0) (hy : y < 0) (ao ai bo bi : ByteArray) : Calls Tryd.prog 15 #[.agg #[.int .i64 x, .string ao, .string ai], .agg #[.int .i64 y, .string bo, .string bi]] w fun e w' => e = .returned (.tuple #[dagg D0, .bool false]) ∧ Below w.heap.size w w' := by
  unfold dagg
  dsimp only
  have b1 : decide (x < 0) = false := by simp; omega
  have b2 : decide (y < 0) = true := by simp [hy]
  go_enter Tryd.func15, Tryd.ntmps15
  go_wp2
  go_returns
  exact ⟨rfl, (by repeat' (first | with_reducible exact Below.refl _ _ | with_reducible refine Below.drewN' ?_ _ | with_reducible refine below_drew ?_ | with_reducible refine below_far ?_ _ _ (by first | (simp; done) | (simp; omega)) | (with_reducible refine Below.alloc ?_ (by first | (simp; done) | (simp; omega)) _)))⟩
theorem dm_far_f (w : World) (x y d : Nat) (hx : x < 9223372036854775808) (hy : y < 9223372036854775808) (ao ai bo bi : ByteArray) (hsi : ai.size ≤ 1000000000000) (he : y = x + d) (hf : ai.size < d) : Calls Tryd.prog 15 #[.agg #[.int .i64 (x : Int), .string ao, .string ai], .agg #[.int .i64 (y : Int), .string bo, .string bi]] w fun e w' => e = .returned (.tuple #[dagg D0, .bool false]) ∧ Below w.heap.size w w' := by
  unfold dagg
  dsimp only
  have p1 : decide ((x : Int) < 0) = false := by first | (simp; done) | (simp; omega)
  have p2 : decide ((y : Int) < 0) = false := by first | (simp; done) | (simp; omega)
  have g1 : decide (x < y) = true := by first | (simp; done) | (simp; omega)
  have g2 : decide (y < x) = false := by first | (simp; done) | (simp; omega)
  have g3 : decide (ai.size < d) = true := by first | (simp; done) | (simp; omega)
  have z1 : IntKind.i64.wrap ((y : Int) - (x : Int)) = (d : Int) := by rw [IntKind.wrap_i64]; omega
  clear he hf
  go_enter Tryd.func15, Tryd.ntmps15
  go_wp2
  go_returns
  exact ⟨rfl, (by repeat' (first | with_reducible exact Below.refl _ _ | with_reducible refine Below.drewN' ?_ _ | with_reducible refine below_drew ?_ | with_reducible refine below_far ?_ _ _ (by first | (simp; done) | (simp; omega)) | (with_reducible refine Below.alloc ?_ (by first | (simp; done) | (simp; omega)) _)))⟩
theorem dm_far_b (w : World) (x y d : Nat) (hx : x < 9223372036854775808) (hy : y < 9223372036854775808) (ao ai bo bi : ByteArray) (hso : bo.size ≤ 1000000000000) (he : x = y + d) (hd : 0 < d) (hf : bo.size < d) : Calls Tryd.prog 15 #[.agg #[.int .i64 (x : Int), .string ao, .string ai], .agg #[.int .i64 (y : Int), .string bo, .string bi]] w fun e w' => e = .returned (.tuple #[dagg D0, .bool false]) ∧ Below w.heap.size w w' := by
  unfold dagg
  dsimp only
  have p1 : decide ((x : Int) < 0) = false := by first | (simp; done) | (simp; omega)
  have p2 : decide ((y : Int) < 0) = false := by first | (simp; done) | (simp; omega)
  have g1 : decide (x < y) = false := by first | (simp; done) | (simp; omega)
  have g2 : decide (y < x) = true := by first | (simp; done) | (simp; omega)
  have g3 : decide (bo.size < d) = true := by first | (simp; done) | (simp; omega)
  have z1 : IntKind.i64.wrap ((x : Int) - (y : Int)) = (d : Int) := by rw [IntKind.wrap_i64]; omega
  clear he hf hd
  go_enter Tryd.func15, Tryd.ntmps15
  go_wp2
  go_returns
  exact ⟨rfl, (by repeat' (first | with_reducible exact Below.refl _ _ | with_reducible refine Below.drewN' ?_ _ | with_reducible refine below_drew ?_ | with_reducible refine below_far ?_ _ _ (by first | (simp; done) | (simp; omega)) | (with_reducible refine Below.alloc ?_ (by first | (simp; done) | (simp; omega)) _)))⟩
theorem merge_d (w : World) (a b : Delta) (ha : a.1 < 9223372036854775808) (hb : b.1 < 9223372036854775808) (h1 : a.2.2.size ≤ 1000000000000) (h2 : b.2.1.size ≤ 1000000000000) (h3 : a.2.1.size ≤ 1000000000000) (h4 : b.2.2.size ≤ 1000000000000) :
    Calls Tryd.prog 15 #[dagg a, dagg b] w fun e w' => e = .returned (.tuple #[dagg (mD a b), .bool (mB a b)]) ∧ Below w.heap.size w w' := by
  have none_ : merge a b = none → (Calls Tryd.prog 15 #[dagg a, dagg b] w fun e w' => e = .returned (.tuple #[dagg D0, .bool false]) ∧ Below w.heap.size w w') → Calls Tryd.prog 15 #[dagg a, dagg b] w fun e w' => e = .returned (.tuple #[dagg (mD a b), .bool (mB a b)]) ∧ Below w.heap.size w w' := fun e h => by
    obtain ⟨e1, e2⟩ := mD_none e
    rw [e1, e2]
    exact h
  have both : ∀ n X Y, (agr X Y a.2.2 b.2.1 → merge a b = some (doc n X Y a.2.1 a.2.2 b.2.1 b.2.2)) → (¬ agr X Y a.2.2 b.2.1 → merge a b = none) → Calls Tryd.prog 15 #[dagg a, dagg b] w (DocPost w n X Y a.2.1 a.2.2 b.2.1 b.2.2) → Calls Tryd.prog 15 #[dagg a, dagg b] w fun e w' => e = .returned (.tuple #[dagg (mD a b), .bool (mB a b)]) ∧ Below w.heap.size w w' := fun n X Y hs hn hC => by
    refine hC.mono fun e w' hp => ?_
    obtain ⟨hp | hp, hb⟩ := hp
    · obtain ⟨e1, e2⟩ := mD_some (hs hp.1)
      rw [e1, e2]
      exact ⟨hp.2, hb⟩
    · obtain ⟨e1, e2⟩ := mD_none (hn hp.1)
      rw [e1, e2]
      exact ⟨hp.2, hb⟩
  obtain ⟨x, ao, ai⟩ := a
  obtain ⟨y, bo, bi⟩ := b
  dsimp only at ha hb h1 h2 h3 h4
  by_cases hx : x < 0
  · exact none_ (merge_neg (.inl hx)) (dm_neg1 w x hx ao ai (y, bo, bi))
  by_cases hy : y < 0
  · exact none_ (merge_neg (.inr hy)) (dm_neg2 w x y hx hy ao ai bo bi)
  obtain ⟨x, rfl⟩ : ∃ k : Nat, x = k := ⟨x.toNat, by omega⟩
  obtain ⟨y, rfl⟩ : ∃ k : Nat, y = k := ⟨y.toNat, by omega⟩
  have hx2 : x < 9223372036854775808 := by omega
  have hy2 : y < 9223372036854775808 := by omega
  rcases Nat.lt_or_ge y x with hlt | hge
  · obtain ⟨d, rfl⟩ : ∃ d, x = y + d := ⟨x - y, by omega⟩
    have hd : 0 < d := by omega
    have hm := merge_b y d hd ao ai bo bi
    by_cases hfar : bo.size < d
    · exact none_ (by rw [hm, if_neg (by unfold mOkB; simp; omega)]) (dm_far_b w _ y d hx2 hy2 ao ai bo bi h2 rfl hd hfar)
    · refine both y d 0 (fun h => ?_) (fun h => ?_) ?_
      · dsimp only at h ⊢
        rw [hm, if_pos ((ok_b (by omega)).2 h), doc_b]
      · dsimp only at h ⊢
        rw [hm, if_neg (fun e => h ((ok_b (by omega)).1 e))]
      · rcases Nat.lt_or_ge (d + ai.size) bo.size with h5 | h5
        · exact dm_gt1 w _ y d hx2 hy2 ao ai bo bi h1 h2 h3 h4 rfl hd (by omega) h5
        · exact dm_gt2 w _ y d hx2 hy2 ao ai bo bi h1 h2 h3 h4 rfl hd (by omega) h5
  · obtain ⟨d, rfl⟩ : ∃ d, y = x + d := ⟨y - x, by omega⟩
    have hm := merge_f x d ao ai bo bi
    by_cases hfar : ai.size < d
    · exact none_ (by rw [hm, if_neg (by unfold mOkF; simp; omega)]) (dm_far_f w x _ d hx2 hy2 ao ai bo bi h1 rfl hfar)
    · refine both x 0 d (fun h => ?_) (fun h => ?_) ?_
      · dsimp only at h ⊢
        rw [hm, if_pos ((ok_f (by omega)).2 h), doc_f]
      · dsimp only at h ⊢
        rw [hm, if_neg (fun e => h ((ok_f (by omega)).1 e))]
      · rcases Nat.eq_zero_or_pos d with h0 | h0
        · rcases Nat.lt_or_ge ai.size (d + bo.size) with h5 | h5
          · exact dm_eq1 w x _ d hx2 hy2 ao ai bo bi h1 h2 h3 h4 (by omega) h0 (by omega) h5
          · exact dm_eq2 w x _ d hx2 hy2 ao ai bo bi h1 h2 h3 h4 (by omega) h0 (by omega) h5
        · rcases Nat.lt_or_ge ai.size (d + bo.size) with h5 | h5
          · exact dm_lt1 w x _ d hx2 hy2 ao ai bo bi h1 h2 h3 h4 rfl h0 (by omega) h5
          · exact dm_lt2 w x _ d hx2 hy2 ao ai bo bi h1 h2 h3 h4 rfl h0 (by omega) h5
end Log
end Go.Proofs.YtkpcnfchhnfpoaaDoor
