/- The walk of RingPlays: any calls of a ring, and of clones. -/
import Derived.Test.YtlflohbpdapiiaaDoorNone
import Derived.Test.YtlflohbpdapiiaaDoorBulk
import Derived.IntWalk
set_option linter.unusedVariables false
namespace Go.Proofs.YtlflohbpdapiiaaDoor
open Go.RowKit Go.Proofs.YtlflohbpdapiiaaDoorW.PrintWords Go.Proofs.YtlflohbpdapiiaaDoor.Sep Go.Proofs.YtlflohbpdapiiaaDoor.Libs
open Go.Proofs.YtlflohbpdapiiaaDoor.Ring (RS foot joined)
namespace Both
/-- No entry is longer than m. -/
def Zs (s : RS) (m : Nat) : Prop := ∀ x ∈ s.ents, x.size ≤ m
theorem joined_size (ah : Bool) (t x : ByteArray) : (joined ah t x).size = t.size + x.size := by
  cases ah
  · show (x ++ t).size = _
    rw [ByteArray.size_append]; omega
  · show (t ++ x).size = _
    rw [ByteArray.size_append]
theorem Zs.get {s : RS} {m : Nat} (h : Zs s m) (h0 : 0 < s.ents.length) : (s.ents.getD 0 E).size ≤ m := by
  match hs : s.ents, h0 with
  | x :: l, _ => exact h x (by rw [hs]; simp)
theorem Zs.take {s : RS} {m q : Nat} (h : Zs s m) (t : ByteArray) (ht : t.size ≤ q) (st : Int) : Zs { s with ents := (t :: s.ents).take s.bound.toNat, state := st } (m + q) := by
  intro x hx
  have := List.mem_of_mem_take hx
  rcases List.mem_cons.1 this with rfl | hx
  · omega
  · have := h x hx; omega
theorem Zs.more {s : RS} {m m' : Nat} (h : Zs s m) (hm : m ≤ m') : Zs s m' := fun x hx => Nat.le_trans (h x hx) hm
theorem Zs.kill {s : RS} {m q : Nat} (h : Zs s m) (t : ByteArray) (ht : t.size ≤ q) (ah : Bool) : Zs (kill s t ah) (m + q) := by
  unfold Both.kill
  split
  · exact h.more (by omega)
  · split
    · next hj =>
      intro x hx
      rcases List.mem_or_eq_of_mem_set hx with hx | rfl
      · have := h x hx; omega
      · rw [joined_size]
        have := h.get hj.2
        omega
    · exact h.take t ht 1
theorem Zs.step {s : RS} {m q : Nat} (h : Zs s m) (k : Nat) (t : ByteArray) (ht : t.size ≤ q) : Zs (step s k t) (m + q) := by
  unfold Both.step
  split
  · exact h.kill t ht _
  · exact h.kill t ht _
  · unfold Both.copy
    split
    · exact h.more (by omega)
    · exact h.take t ht 0
  · unfold Both.yank
    split <;> exact h.more (by omega)
  · unfold Both.pop
    split <;> exact h.more (by omega)
  · exact h.more (by omega)
  · exact h.more (by omega)
theorem Zs.fit {s : RS} {m q : Nat} (h : Zs s m) (t : ByteArray) (ht : t.size ≤ q) (hm : m + q ≤ 9223372036854775807) : Fit s t := fun hj => by
  have := h.get hj.2
  omega
theorem clone_pair {w0 w : World} {b c : Nat} {v u : Value} {s : RS} (h : Pair w0 w b c v u s) :
    Calls Tryd.prog 20 #[.pointer (some ⟨b, 0, none⟩)] w fun e w' => ∃ b' v', e = .returned (.pointer (some ⟨b', 0, none⟩)) ∧ PAt w' b' v' s ∧ (∀ k, foot b' v' k → w.heap.size ≤ k) ∧ Below w.heap.size w w' := clone_p w b v s h.p h.inv
theorem Pair.clone {w0 w w1 w2 : World} {b c b' c' : Nat} {v u v' u' : Value} {s : RS} (h : Pair w0 w b c v u s) (h1 : PAt w1 b' v' s) (hn1 : ∀ k, foot b' v' k → w.heap.size ≤ k) (hb1 : Below w.heap.size w w1)
    (h2 : RAt w2 c' u' s) (hn2 : ∀ k, foot c' u' k → w1.heap.size ≤ k) (hb2 : Below w1.heap.size w1 w2) : Pair w w2 b' c' v' u' s :=
  ⟨h1.upd (Upd.below hb2 No) (fun _ _ h => h), h2, h.inv, fun k hk hc => by have := h1.lt k hk; have := hn2 k hc; omega, hn1, fun k hk => Nat.le_trans hb1.size (hn2 k hk), hb1.trans (hb2.mono hb1.size)⟩
theorem Pair.start {W w2 w3 : World} {b c : Nat} {n : Int} (h : PB W w2 b (.slice none 0 0) (start n)) (hr : RAt w3 c (.slice none 0 0) (start n)) (hk : w2.heap.size ≤ c) (hb : Below w2.heap.size w2 w3) : Pair W w3 b c (.slice none 0 0) (.slice none 0 0) (start n) :=
  ⟨h.at_.upd (Upd.below hb No) (fun _ _ h => h), hr, h.inv, by
    rintro k hk' (rfl | e)
    · have := h.at_.lt _ hk'; omega
    · simp [Value.ownBlock] at e, h.new, by
    rintro k (rfl | e)
    · exact Nat.le_trans h.below.size hk
    · simp [Value.ownBlock] at e, h.below.trans (hb.mono h.below.size)⟩
set_option maxHeartbeats 6400000 in
set_option maxRecDepth 100000 in
theorem plays (W : World) (n : Int) (A : Option Addr) (l cp : Nat) (xs : List OpV) (hx : xs.length = l) (hr : Reads W W.heap.size 2 A l (xs.flatMap opCells)) (hc : l ≤ cp) (hl : l ≤ 1048576) (hm : ∀ i, i < l → (xs.getD i (0, E)).2.size ≤ 1048576) :
    Calls Tryd.prog 7 #[.int .i64 n, .slice A l cp] W fun e W' => e = .returned (.bool true) ∧ Below W.heap.size W W' := by
  have HR := Lib.hid hr
  have HX := Lib.hid hx
  have HM := Lib.hid hm
  clear hr hm
  go_enter Tryd.func7, Tryd.ntmps7
  go_wp2_with (first
    | (go_at_call 9; refine (kills W).mono ?_; rintro e w1 ⟨rfl, hb⟩; have HW := Lib.hid hb; clear hb)
    | (go_at_call 10; refine (new_b W _ n HW.out).mono ?_; rintro e w2 ⟨b, rfl, hp0⟩; have HP0 := Lib.hid hp0; clear hp0 HW)
    | (go_at_call 21; refine (new_r _ n).mono ?_; rintro e w3 ⟨c, rfl, hr, hk, hbel⟩; have HP := Lib.hid (Pair.start HP0.out hr hk hbel); clear hr hk hbel HP0)
    | (go_at_call 22; refine (agree HP.out).mono ?_; rintro e w4 ⟨rfl, hb⟩; have HP1 := Lib.hid (HP.out.later hb); clear hb HP))
  go_loopg [29] l (fun k v29 w' => ∃ i : Nat, v29 = .int .i64 i ∧ i + k = l ∧ ∃ s v u, Hid (Pair W w' b c v u s) ∧ Hid (Zs s (i * 1048576)))
  case atStart => exact ⟨0, rfl, by omega, _, _, _, HP1, Lib.hid (fun x hx => by simp [start] at hx)⟩
  case round =>
    clear HP1
    obtain ⟨i, rfl, hik, s, v, u, HP, HZ⟩ := hrel
    rename World => wz
    cases gk with
    | zero =>
      have e1 : decide ((i : Int) < (l : Int)) = false := by simp; omega
      go_wp2
      go_ret
      exact ⟨rfl, HP.out.below⟩
    | succ k1 =>
      have hi : i < l := by omega
      have e1 : decide ((i : Int) < (l : Int)) = true := by simp [hi]
      obtain ⟨g, off, rfl, d0, d1, hg⟩ := op_at HR.out HX.out HP.out.below hi
      have HT := Lib.hid (HM.out i hi)
      generalize xs.getD i (0, E) = o at d0 d1 HT
      obtain ⟨k, t⟩ := o
      dsimp only at d0 d1 HT
      have HQ := fun ob : Obj => Lib.hid (HP.out.boxed ob)
      have HF : Hid (Fit s t) := Lib.hid (HZ.out.fit t HT.out (by omega))
      have HZ2 : Hid (Zs (step s k t) ((i + 1) * 1048576)) := Lib.hid (by rw [Nat.add_mul]; exact HZ.out.step k t HT.out)
      have hfar := HP.out.far (Nat.le_refl _)
      by_cases hk6 : k % 7 = 6
      · have b6 : ((k : Int) % 7 == 6) = true := by rw [beq_iff_eq]; omega
        clear hk6
        rcases Classical.em (cp = i + 1) with rfl | hcap
        all_goals
          go_wp2_with (first
            | (go_at_call 20; refine (clone_p _ _ _ _ (HQ (.cells #[.int .u8 k, .string t] 47)).out.p (HQ (.cells #[.int .u8 k, .string t] 47)).out.inv).mono ?_; rintro e w5 ⟨b2, v2, rfl, h1, hn1, hb1⟩; have HP5 := Lib.hid ((HQ (.cells #[.int .u8 k, .string t] 47)).out.later hb1); have H1 := Lib.hid h1; have HN1 := Lib.hid hn1; have HB1 := Lib.hid hb1; clear h1 hn1 hb1)
            | (go_at_call 23; refine (clone_r _ _ _ _ HP5.out.r HP5.out.inv).mono ?_; rintro e w6 ⟨c2, u2, rfl, h2, hn2, hb2⟩; have HC := Lib.hid ((HQ (.cells #[.int .u8 k, .string t] 47)).out.clone H1.out HN1.out HB1.out h2 hn2 hb2); clear h2 hn2 hb2 H1 HN1 HB1 HP5)
            | (go_at_call 22; refine (agree HC.out).mono ?_; rintro e w7 ⟨rfl, hb⟩; have HC2 := Lib.hid (HC.out.later hb); clear hb HC))
          have hM : (min (l : Int) ((i : Int) + 6)).toNat - (i + 1) ≤ l - (i + 1) := by omega
          generalize (min (l : Int) ((i : Int) + 6)).toNat - (i + 1) = M at *
          go_loopg [60] M (fun m v60 w' => ∃ j : Nat, v60 = .int .i64 j ∧ j + m = M ∧ ∃ s3 v3 u3, Hid (Pair (wz.alloc (.cells #[.int .u8 k, .string t] 47)) w' b2 c2 v3 u3 s3) ∧ Hid (Zs s3 ((i + j) * 1048576)))
          case atStart => exact ⟨0, rfl, by omega, _, _, _, HC2, HZ⟩
          case round =>
            clear HC2
            obtain ⟨j, rfl, hjm, s3, v3, u3, HC3, HZ3⟩ := hrel
            cases gk with
            | succ m1 =>
              have hj : j < M := by omega
              have f1 : decide ((j : Int) < (M : Int)) = true := by simp [hj]
              obtain ⟨g', off', he, x0, x1, _⟩ := op_at (i := i + 1 + j) HR.out HX.out (HP.out.below.trans ((((Below.refl wz.heap.size wz).alloc (Nat.le_refl _) (.cells #[.int .u8 k, .string t] 47)).trans (HC3.out.below.mono (by simp))).mono HP.out.below.size)) (by omega)
              injection he with he
              injection he with he1 he2
              subst he1; subst he2
              have HT3 := Lib.hid (HM.out (i + 1 + j) (by omega))
              generalize xs.getD (i + 1 + j) (0, E) = o3 at x0 x1 HT3
              obtain ⟨k3, t3⟩ := o3
              dsimp only at x0 x1 HT3
              rw [show off + (i + 1 + j) * 2 = off + (i + 1) * 2 + j * 2 by omega] at x0 x1
              have HF3 : Hid (Fit s3 t3) := Lib.hid (HZ3.out.fit t3 HT3.out (by omega))
              have HZ4 : Hid (Zs (step s3 k3 t3) ((i + (j + 1)) * 1048576)) := Lib.hid (by rw [← Nat.add_assoc, Nat.add_mul]; exact HZ3.out.step k3 t3 HT3.out)
              have HQ3 := fun ob : Obj => Lib.hid (HC3.out.boxed ob)
              first
                | (exfalso; omega)
                | (go_wp2_with (first
                     | (go_at_call 24; refine (play k3 t3 (HQ3 _).out HF3.out).mono ?_; rintro e w8 ⟨rfl, v1, u1, hp, hu⟩; have HP8 := Lib.hid hp; clear hp hu)
                     | (go_at_call 22; refine (agree HP8.out).mono ?_; rintro e w9 ⟨rfl, hb⟩; have HP9 := Lib.hid (HP8.out.later hb); clear hb))
                   go_roundg m1
                   case measure => omega
                   case rel => exact ⟨j + 1, by simp, by omega, _, _, _, HP9, HZ4⟩)
            | zero =>
              have f1 : decide ((j : Int) < (M : Int)) = false := by simp; omega
              have HPo := Lib.hid ((HQ (.cells #[.int .u8 k, .string t] 47)).out.later HC3.out.below)
              have q0 : World.cell? wr ⟨wz.heap.size, 0, none⟩ = some (.int .u8 k) := (HC3.out.below.cell (p := ⟨wz.heap.size, 0, none⟩) (by simp)).trans (by simp)
              have q1 : World.cell? wr ⟨wz.heap.size, 1, none⟩ = some (.string t) := (HC3.out.below.cell (p := ⟨wz.heap.size, 1, none⟩) (by simp)).trans (by simp)
              go_wp2_with (first
                | (go_at_call 22; refine (agree HPo.out).mono ?_; rintro e w8 ⟨rfl, hb⟩; have HPp := Lib.hid (HPo.out.later hb); have r0 := (hb.cell (p := ⟨wz.heap.size, 0, none⟩) (World.block_lt_of_cell? _ _ q0)).trans q0; have r1 := (hb.cell (p := ⟨wz.heap.size, 1, none⟩) (World.block_lt_of_cell? _ _ q1)).trans q1; clear hb HPo)
                | (go_at_call 24; refine (play k t HPp.out HF.out).mono ?_; rintro e w9 ⟨rfl, v1, u1, hp, hu⟩; have HPq := Lib.hid hp; clear hp hu HPp)
                | (go_at_call 22; refine (agree HPq.out).mono ?_; rintro e w10 ⟨rfl, hb⟩; have HPr := Lib.hid (HPq.out.later hb); clear hb))
              go_roundg k1
              case measure => omega
              case rel => exact ⟨i + 1, by simp, by omega, _, _, _, HPr, HZ2⟩
      · have b6 : ((k : Int) % 7 == 6) = false := by rw [beq_eq_false_iff_ne]; omega
        clear hk6
        go_wp2_with (first
          | (go_at_call 24; refine (play k t (HQ _).out HF.out).mono ?_; rintro e w5 ⟨rfl, v1, u1, hp, hu⟩; have HP1 := Lib.hid hp; clear hp hu)
          | (go_at_call 22; refine (agree HP1.out).mono ?_; rintro e w6 ⟨rfl, hb⟩; have HP2 := Lib.hid (HP1.out.later hb); clear hb))
        go_roundg k1
        case measure => omega
        case rel => exact ⟨i + 1, by simp, by omega, _, _, _, HP2, HZ2⟩
theorem op_le {H : Type} (u : OpV) : u.2.size + 1 ≤ Rows.uptoBulk (opDat (H := H) u) := by
  show u.2.size + 1 ≤ 1 + ((u.2.data.toList.length + 1) + 0) + 1
  rw [Array.length_toList]
  show u.2.size + 1 ≤ 1 + ((u.2.size + 1) + 0) + 1
  omega
theorem sum_get {α : Type} (n : α → Nat) (d : α) : ∀ (us : List α) (i : Nat), i < us.length → n (us.getD i d) ≤ (us.map n).sum
  | [], i, h => absurd h (by simp)
  | u :: us, 0, _ => by simp
  | u :: us, i + 1, h => by
    have := sum_get n d us i (by simpa using h)
    simp only [List.map_cons, List.sum_cons, List.getD_cons_succ]
    omega
theorem sum_len {α : Type} (n : α → Nat) (hn : ∀ u, 1 ≤ n u) : ∀ us : List α, us.length ≤ (us.map n).sum
  | [] => by simp
  | u :: us => by
    have := sum_len n hn us
    have := hn u
    simp only [List.map_cons, List.sum_cons, List.length_cons]
    omega
theorem plays_row {H : Type} (W : World) (n : Int) (wn : (Lit.int .i64 n).wf = true) (A : Option Addr) (l cp : Nat) (xs : List OpV) (hr : Reads W W.heap.size 2 A l (xs.flatMap opCells)) (hc : l ≤ cp) (hm : ∀ u ∈ xs, opOk u) (y : l * 24 ≤ reachBytes) (zl : xs.length = l) {d : DataW H} (zd : (l = 0 ∧ d = .nil) ∨ ∃ sp, d = .slice (xs.map opDat) sp) (hb : Rows.uptoBulk d ≤ 1048576) :
    Calls Tryd.prog 7 #[.int .i64 n, .slice A l cp] W fun e W' => e = .returned (.bool true) ∧ Below W.heap.size W W' := by
  have hs := Bulk.elems opDat (fun u : OpV => u.2.size + 1) op_le zl zd hb
  have h1 := sum_len (fun u : OpV => u.2.size + 1) (fun _ => Nat.le_add_left _ _) xs
  refine plays W n A l cp xs zl hr hc (by omega) (fun i hi => ?_)
  have := sum_get (fun u : OpV => u.2.size + 1) (0, E) xs i (by omega)
  omega
end Both
end Go.Proofs.YtlflohbpdapiiaaDoor
