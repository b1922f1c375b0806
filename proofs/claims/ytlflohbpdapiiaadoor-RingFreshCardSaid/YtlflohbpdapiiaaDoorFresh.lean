/- The walk of RingFresh: lists share no memory with a ring. -/
import Derived.Test.YtlflohbpdapiiaaDoorBounds
import Derived.Test.YtlflohbpdapiiaaDoorWZeros
set_option linter.unusedVariables false
namespace Go.Proofs.YtlflohbpdapiiaaDoor
open Go.RowKit Go.Proofs.YtlflohbpdapiiaaDoorW.PrintWords Go.Proofs.YtlflohbpdapiiaaDoor.Sep Go.Proofs.YtlflohbpdapiiaaDoor.Libs
open Go.Proofs.YtlflohbpdapiiaaDoor.Ring (RS foot joined)
namespace Both
/-- append(v, make([]T, m)...). -/
theorem wpList_append_zeros {P : Program} {w : World} {ops : Array Oper} {rest : List Oper} {o : Oper} {a : Act} {Q : Exit → Act → World → Prop} (hgd : o.guard = none) (s x : Operand) (t ti : TypeId)
    (ho : o.op = .call { callee := .builtin .append, args := #[s, x], argTypes := #[t, ti] })
    (base : Nat) (e : TypeId) (i : TypeInfo) (z : Value) (size bytes : Nat) (ht : P.underlying t = some (.slice e)) {k : IntKind} (hti : P.underlying ti = some (.int k)) (hi : P.info? e = some i) (hz : i.zero = some z)
    (hsize : i.size = size) (hby : i.bytes = bytes) (hzs : z.cells.size = size) (hsz : 0 < size) (hb0 : 0 < bytes)
    (v : Value) (n : Nat) (xs : List Value) (hs : a.eval s = v) (hown : w.ownsRow base e size v n xs) (kx : IntKind) (m : Nat) (hx : a.eval x = .int kx m) (h1 : ∀ u ∈ (Builtin.zeroCells z.cells m).toList, u.oneCell' = true)
    (hbytes : (n + m) * bytes ≤ 140737488355328) (hbase : base ≤ w.heap.size)
    (h : ∀ v' w', w.grownBy w' v.ownBlock → wpList P ops Q rest (a.put o.dst v') w') : wpList P ops Q (o :: rest) a w := by
  obtain ⟨v1, w1, hr1, _, hg, _⟩ := run_append_zeros w base t ti o.type e i z size bytes ht hti hi hz hsize hby hzs hsz hb0 v n xs hown kx m h1 hbytes hbase
  refine wpList_plain hgd fun K hK => ?_
  unfold Oper.wp execOp
  simp only [ho, resolve, invoke, builtin, Sem.run_bind, Sem.run_pure, Result.andThen_ok, List.map_toArray, List.map_cons, List.map_nil, hs, hx, hr1]
  exact hK _ _ (h v1 w1 hg)
theorem zeros_one : ∀ u ∈ (Builtin.zeroCells (Value.string ⟨#[]⟩).cells 40).toList, u.oneCell' = true := by
  intro u hu
  simp [Builtin.zeroCells, Value.cells] at hu
  obtain ⟨a, _, rfl⟩ := hu
  rw [Nat.mod_one]
  rfl
structure Kp (W w : World) (b : Nat) (v : Value) (s : RS) (lb vk : Value) : Prop where
  pb : PB W w b v s
  ob : Own w lb s.ents
  ok : Own w vk s.ents
theorem Kp.upd {W w w' : World} {b : Nat} {v : Value} {s : RS} {lb vk : Value} {S : Nat → Prop} (h : Kp W w b v s lb vk) (hu : Upd S w w') (hd : ∀ k, S k → W.heap.size ≤ k ∧ ¬ foot b v k ∧ lb.ownBlock ≠ some k ∧ vk.ownBlock ≠ some k) : Kp W w' b v s lb vk :=
  ⟨h.pb.beside hu (fun k hk => ⟨(hd k hk).1, (hd k hk).2.1⟩), h.ob.upd hu (fun k hk hs => (hd k hs).2.2.1 hk), h.ok.upd hu (fun k hk hs => (hd k hs).2.2.2 hk)⟩
theorem Kp.later {W w w' : World} {b : Nat} {v : Value} {s : RS} {lb vk : Value} (h : Kp W w b v s lb vk) (hb : Below w.heap.size w w') : Kp W w' b v s lb vk :=
  ⟨h.pb.later hb, h.ob.upd (Upd.below hb No) (fun _ _ h => h), h.ok.upd (Upd.below hb No) (fun _ _ h => h)⟩
theorem Own.at2_ {w : World} {B : Option Addr} {n c : Nat} {xs : List ByteArray} (h : Own w (.slice B n c) xs) {k : Nat} (hk : k < xs.length) : ∃ g, B = some ⟨g, 0, none⟩ ∧ w.cell? ⟨g, k, none⟩ = some (.string (xs.getD k E)) ∧ w.frozen? ⟨g, k, none⟩ = false := by
  obtain ⟨g, c', he, _, hc, hf⟩ := h.some_ (by omega)
  injection he with h1 h2 h3
  exact ⟨g, h1, hc k hk, hf k⟩
theorem copy_state (l : List ByteArray) : ∀ s : RS, s.state = 0 → (l.foldl copy s).state = 0 := by
  induction l with
  | nil => exact fun s h => h
  | cons t l ih => exact fun s h => ih _ (by unfold copy; split; exact h; rfl)
theorem own_empty (w : World) : Own (w.alloc (.cells #[] 9)) (.slice (some ⟨w.heap.size, 0, none⟩) 0 0) [] :=
  ⟨rfl, .inr ⟨_, 0, #[], rfl, Nat.zero_le _, heap_alloc_new w _, Nat.le_refl _, by unfold maxLen; omega, rfl, rfl⟩⟩
theorem all_u {w0 w : World} {b : Nat} {v : Value} {s : RS} (h : PB w0 w b v s) : Calls Tryd.prog 12 #[.pointer (some ⟨b, 0, none⟩)] w fun e w' => ∃ l, e = .returned l ∧ Out w0 w' b v l s.ents ∧ PB w0 w' b v s ∧ Below w.heap.size w w' ∧ ∀ k, l.ownBlock = some k → w.heap.size ≤ k := by
  refine (all_p w b v s h.at_ h.inv).mono ?_
  rintro e w' ⟨l, rfl, ho, hk, hb⟩
  exact ⟨l, rfl, ⟨ho, fun k e => Nat.le_trans h.below.size (hk k e), fun k e hf => by have := hk k e; have := h.at_.lt k hf; omega⟩, h.later hb, hb, hk⟩
theorem clone_b {w0 w : World} {b : Nat} {v : Value} {s : RS} (h : PB w0 w b v s) : Calls Tryd.prog 20 #[.pointer (some ⟨b, 0, none⟩)] w fun e w' => ∃ b' v', e = .returned (.pointer (some ⟨b', 0, none⟩)) ∧ PB w w' b' v' s := by
  refine (clone_p w b v s h.at_ h.inv).mono ?_
  rintro e w' ⟨b', v', rfl, ha, hk, hb⟩
  exact ⟨b', v', rfl, ha, hk, hb, h.inv⟩
/-- What is known when both lists have been answered and one has been copied. -/
theorem Kp.start {W w3 w4 w5 : World} {b : Nat} {v la lb vk : Value} {s : RS} (ha : Out W w3 b v la s.ents) (hp : PB W w4 b v s) (hb : Out W w4 b v lb s.ents) (h34 : Below w3.heap.size w3 w4) (hlb : ∀ k, lb.ownBlock = some k → w3.heap.size ≤ k)
    (ho : w5.ownsRow 0 9 1 vk (0 + s.ents.length) ([] ++ s.ents.map Value.string)) (hg : (w4.alloc (.cells #[] 9)).grownBy w5 (Value.slice (some ⟨w4.heap.size, 0, none⟩) 0 0).ownBlock) (hat : vk.ownBlock = (Value.slice (some ⟨w4.heap.size, 0, none⟩) 0 0).ownBlock ∨ vk.ownBlock = some (w4.alloc (.cells #[] 9)).heap.size) :
    Kp W w5 b v s lb vk ∧ Own w5 la s.ents ∧ ∀ k, la.ownBlock = some k → W.heap.size ≤ k ∧ ¬ foot b v k ∧ lb.ownBlock ≠ some k ∧ vk.ownBlock ≠ some k := by
  have h45 : Below w4.heap.size w4 w5 := ((Below.refl w4.heap.size w4).alloc (Nat.le_refl _) _).grown hg (by simp) (by intro k hk; simp [Value.ownBlock] at hk; omega)
  have h35 : Below w3.heap.size w3 w5 := h34.trans (h45.mono h34.size)
  have hs := h34.size
  refine ⟨⟨hp.later h45, hb.own.upd (Upd.below h45 No) (fun _ _ h => h), by unfold Own; simpa using ho⟩, ha.own.upd (Upd.below h35 No) (fun _ _ h => h), fun k hk => ⟨ha.new k hk, ha.far k hk, fun e => ?_, fun e => ?_⟩⟩
  · have := ha.own.lt k hk
    have := hlb k e
    omega
  · have := ha.own.lt k hk
    rcases hat with h | h
    · rw [h] at e; simp [Value.ownBlock] at e; omega
    · rw [h] at e; simp at e; omega
set_option maxHeartbeats 6400000 in
set_option maxRecDepth 100000 in
theorem fresh (W : World) (n : Int) (A : Option Addr) (l c : Nat) (xs : List ByteArray) (hr : Reads W W.heap.size 1 A l (xs.map Value.string)) (hlc : l ≤ c) (hl : l * 16 ≤ 140737488351232) :
    Calls Tryd.prog 6 #[.int .i64 n, .slice A l c] W fun e W' => e = .returned (.bool true) ∧ Below W.heap.size W W' := by
  obtain ⟨i0, hi0, hz0, hz1, hz2⟩ := info_parts Ref.info9
  have HR := Lib.hid hr
  have HX : Hid (xs.length = l) := Lib.hid (by simpa using hr.1)
  clear hr
  go_enter Tryd.func6, Tryd.ntmps6
  go_wp2_with (first
    | (go_at_call 9; refine (kills W).mono ?_; rintro e w1 ⟨rfl, hb⟩; have HW := Lib.hid hb; clear hb)
    | (go_at_call 10; refine (new_b W _ n HW.out).mono ?_; rintro e w2 ⟨b, rfl, hp0⟩; have HP0 := Lib.hid hp0; clear hp0 HW))
  go_loopg [21] l (fun k v21 w' => ∃ i : Nat, v21 = .int .i64 i ∧ i + k = l ∧ ∃ v s, Hid (PB W w' b v s) ∧ Hid (s.state = 0))
  case atStart => exact ⟨0, rfl, by omega, _, _, HP0, Lib.hid rfl⟩
  case round =>
    clear HP0
    obtain ⟨i, rfl, hik, v, s, HP, HS⟩ := hrel
    cases gk with
    | succ k1 =>
      have hi : i < l := by omega
      have e1 : decide ((i : Int) < (l : Int)) = true := by simp [hi]
      obtain ⟨ad, rfl, hcell, hi2⟩ := reads_at HR.out HP.out.below hi
      generalize xs.getD i E = t0 at *
      go_wp2_with (go_at_call 11; refine (copy_b t0 HP.out).mono ?_; rintro e w3 ⟨rfl, v1, hp1⟩; have HP1 := Lib.hid hp1; clear hp1)
      go_roundg k1
      case measure => omega
      case rel => exact ⟨i + 1, by simp, by omega, v1, _, HP1, Lib.hid (copy_state [t0] s HS.out)⟩
    | zero =>
      have e1 : decide ((i : Int) < (l : Int)) = false := by simp; omega
      have hlen : s.ents.length ≤ 1000 := by have := HP.out.inv.len; have := HP.out.inv.b1; omega
      go_wp2_with (first
        | (go_at_call 12; refine (all_u HP.out).mono ?_; rintro e w3 ⟨la, rfl, ho, hp, hb, _⟩; obtain ⟨Aa, ca, rfl, hla⟩ := ho.own.form; have HOa := Lib.hid ho; have HPa := Lib.hid hp; clear ho hp hb HP)
        | (go_at_call 12; refine (all_u HPa.out).mono ?_; rintro e w4 ⟨lb, rfl, ho, hp, hb, hkb⟩; obtain ⟨Ab, cb, rfl, hlb⟩ := ho.own.form; have HOb := Lib.hid ho; have HPb := Lib.hid hp; have HKB := Lib.hid hkb; have HBB := Lib.hid hb; have HRb := Lib.hid (((Reads.of_own ho.own).alloc (Nat.le_refl _) (.cells #[] 9)).more (B' := (w4.alloc (.cells #[] 9)).heap.size) (by simp)); have HZ := Lib.hid (own_empty w4); clear ho hp hb hkb HPa)
        | (at_builtin; refine wpList_append_any _ rfl (.tmp 33) (.tmp 34) _ rfl 0 9 i0 _ 1 16 Tryd.underlying22 hi0 hz0 hz1 hz2 rfl (by omega) (.slice (some ⟨w4.heap.size, 0, none⟩) 0 0) 0 [] rfl HZ.out _ Ab s.ents.length cb (s.ents.map Value.string) rfl HRb.out (one_map _) (by simp only [maxLen]; omega) (by omega) (Nat.zero_le _) ?_; intro vk w5 hown1 hg1 hat1; obtain ⟨hk5, ho5, hd5⟩ := Kp.start HOa.out HPb.out HOb.out HBB.out HKB.out hown1 hg1 hat1; obtain ⟨Ak, ck, rfl, hlk⟩ := hk5.ok.form; have HK := Lib.hid hk5; have HO := Lib.hid ho5; have HD := Lib.hid hd5; clear hown1 hg1 hat1 hk5 ho5 hd5 HOa HPb HOb HBB HKB HRb HZ))
      go_loopg [38] s.ents.length (fun k v38 w' => ∃ (i : Nat) (ys : List ByteArray), v38 = .int .i64 i ∧ i + k = s.ents.length ∧ ys.length = s.ents.length ∧ Hid (Own w' (.slice Aa s.ents.length ca) ys) ∧ Hid (Kp W w' b v s (.slice Ab s.ents.length cb) (.slice Ak s.ents.length ck)))
      case atStart => exact ⟨0, s.ents, rfl, by omega, rfl, HO, HK⟩
      case round =>
        clear HO HK
        obtain ⟨i2, ys, rfl, hik2, hys, HO, HK⟩ := hrel
        cases gk with
        | succ k2 =>
          have hi2 : i2 < s.ents.length := by omega
          have f1 : decide ((i2 : Int) < (s.ents.length : Int)) = true := by simp [hi2]
          obtain ⟨g, rfl, hc2, hf2⟩ := Own.at2_ HO.out (k := i2) (by omega)
          go_wp2
          go_roundg k2
          case measure => omega
          case rel => exact ⟨i2 + 1, _, by simp, by omega, by rw [List.length_set]; exact hys, Lib.hid (HO.out.set_ rfl i2 (by omega) _), Lib.hid (HK.out.upd ((Upd.refl (fun k => (Value.slice (some ⟨g, 0, none⟩) s.ents.length ca).ownBlock = some k) _).setCell (p := ⟨g, i2, none⟩) (.inl rfl) _) HD.out)⟩
        | zero =>
          have f1 : decide ((i2 : Int) < (s.ents.length : Int)) = false := by simp; omega
          have hb40 : (s.ents.length + 40) * 16 ≤ 140737488355328 := by omega
          have HW : Hid (World.ownsRow _ 0 9 1 (.slice Aa s.ents.length ca) s.ents.length (ys.map Value.string)) := Lib.hid (by rw [← hys]; rw [← hys] at HO; exact HO.out)
          go_wp2_with (first
            | (at_builtin; refine wpList_append_zeros rfl (.tmp 45) (.const (.int .i64 40)) _ _ rfl 0 9 i0 _ 1 16 Tryd.underlying22 Tryd.underlying3 hi0 hz0 hz1 hz2 rfl (by omega) (by omega) (.slice Aa s.ents.length ca) s.ents.length (ys.map Value.string) rfl HW.out .i64 40 rfl zeros_one hb40 (Nat.zero_le _) ?_; intro v7 w8 hg8; have HK8 := Lib.hid (HK.out.upd (Upd.grown (S := fun k => (Value.slice Aa s.ents.length ca).ownBlock = some k) hg8 (fun _ e => e)) HD.out); clear hg8)
            | (go_at_call 20; refine (clone_b HK8.out.pb).mono ?_; rintro e w9 ⟨b2, v2, rfl, hp⟩; have HC := Lib.hid hp; clear hp)
            | (go_at_call 13; refine (kill_b ⟨#[109, 111, 114, 101]⟩ false HC.out (fun h => by rw [HS.out] at h; simp at h) _ rfl _ rfl).mono ?_; rintro e w10 ⟨rfl, v3, hp⟩; have HC2 := Lib.hid hp; clear hp HC)
            | (go_at_call 12; refine (all_u HC2.out).mono ?_; rintro e w11 ⟨ld, rfl, ho, hp, hb, hk⟩; obtain ⟨Ad, cd, rfl, hld⟩ := ho.own.form; have HOd := Lib.hid ho.own; have HKd := Lib.hid ho.new; have HB8 := Lib.hid hp.below; have hd3 : (kill s ⟨#[109, 111, 114, 101]⟩ false).ents.length ≤ 1000 := (by have := hp.inv.len; have := hp.inv.b1; omega); clear ho hp hb hk HC2))
          generalize (kill s ⟨#[109, 111, 114, 101]⟩ false).ents = zs at *
          go_loopg [55] zs.length (fun k v55 w' => ∃ (i : Nat) (us : List ByteArray), v55 = .int .i64 i ∧ i + k = zs.length ∧ us.length = zs.length ∧ Hid (Own w' (.slice Ad zs.length cd) us) ∧ Hid (Below w8.heap.size w8 w'))
          case atStart => exact ⟨0, zs, rfl, by omega, rfl, HOd, HB8⟩
          case round =>
            clear HOd HB8
            obtain ⟨i3, us, rfl, hik3, hus, HOd, HB8⟩ := hrel
            cases gk with
            | succ k3 =>
              have hi3 : i3 < zs.length := by omega
              have f3 : decide ((i3 : Int) < (zs.length : Int)) = true := by simp [hi3]
              obtain ⟨g3, rfl, hc3, hf3⟩ := Own.at2_ HOd.out (k := i3) (by omega)
              go_wp2
              go_roundg k3
              case measure => omega
              case rel => exact ⟨i3 + 1, _, by simp, by omega, by rw [List.length_set]; exact hus, Lib.hid (HOd.out.set_ rfl i3 (by omega) _), Lib.hid (HB8.out.setCell (p := ⟨g3, i3, none⟩) (HKd.out g3 rfl) _)⟩
            | zero =>
              have f3 : decide ((i3 : Int) < (zs.length : Int)) = false := by simp; omega
              have HN : Hid (s.ents.length ≤ 100000) := Lib.hid (by omega)
              have HK9 := Lib.hid (HK8.out.later HB8.out)
              have hdd : decide (s.ents = s.ents) = true := decide_eq_true rfl
              go_wp2_with (first
                | (go_at_call 14; refine (Ref.same _ _ _ _ _ HK9.out.ob HK9.out.ok HN.out).mono ?_; rintro e w12 ⟨rfl, hd⟩; have HKa := Lib.hid (HK9.out.later hd.below); clear hd HK9)
                | (go_at_call 12; refine (all_u HKa.out.pb).mono ?_; rintro e w13 ⟨le, rfl, ho, hp, hb, hk⟩; have HOe := Lib.hid ho.own; have HKb := Lib.hid (HKa.out.later hb); clear ho hp hb hk HKa)
                | (go_at_call 14; refine (Ref.same _ _ _ _ _ HOe.out HKb.out.ok HN.out).mono ?_; rintro e w14 ⟨rfl, hd⟩; have HKc := Lib.hid (HKb.out.later hd.below); clear hd HKb))
              go_ret
              exact ⟨by simp, HKc.out.pb.below⟩
theorem fresh_row (W : World) (n : Int) (wn : (Lit.int .i64 n).wf = true) (A : Option Addr) (l c : Nat) (xs : List ByteArray) (hr : Reads W W.heap.size 1 A l (xs.map Value.string)) (hlc : l ≤ c) (hm : ∀ u ∈ xs, u.size ≤ maxLen) (y : l * 16 ≤ reachBytes) :
    Calls Tryd.prog 6 #[.int .i64 n, .slice A l c] W fun e W' => e = .returned (.bool true) ∧ Below W.heap.size W W' :=
  fresh W n A l c xs hr hlc (by have : reachBytes = 140737488351232 := by rfl
                                omega)
end Both
end Go.Proofs.YtlflohbpdapiiaaDoor
