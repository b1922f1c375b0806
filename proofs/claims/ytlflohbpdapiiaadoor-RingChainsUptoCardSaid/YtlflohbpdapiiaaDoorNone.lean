/- The walk of RingNone: a ring of no bound and a nil one keep nothing. And a slice of Ops, opened. -/
import Derived.Test.YtlflohbpdapiiaaDoorPlay3
import Derived.Test.YtlflohbpdapiiaaDoorOpen
import Derived.Deep.LoopGhost
import Derived.BigQuiet
set_option linter.unusedVariables false
namespace Go.Proofs.YtlflohbpdapiiaaDoor
open Go.RowKit Go.Proofs.YtlflohbpdapiiaaDoorW.PrintWords Go.Proofs.YtlflohbpdapiiaaDoor.Sep Go.Proofs.YtlflohbpdapiiaaDoor.Libs
open Go.Proofs.YtlflohbpdapiiaaDoor.Ring (RS foot joined)
namespace Both
/-- One call: its kind and its text. -/
abbrev OpV := Nat × ByteArray
def opCells (o : OpV) : List Value := [.int .u8 o.1, .string o.2]
def opDat {H : Type} (o : OpV) : DataW H := .agg [.lit (.int .u8 o.1), Opens.strLit o.2]
def opOk (o : OpV) : Prop := o.1 < 256 ∧ o.2.size ≤ maxLen
theorem u8_nat' {p : Int} (h : (Lit.int .u8 p).wf = true) : ∃ k : Nat, p = k ∧ k < 256 := by
  have h' : (decide (IntKind.u8.min ≤ p) && decide (p ≤ IntKind.u8.max)) = true := h
  rw [Bool.and_eq_true, decide_eq_true_eq, decide_eq_true_eq] at h'
  have e1 : IntKind.u8.min = 0 := by rfl
  have e2 : IntKind.u8.max = 255 := by rfl
  exact ⟨p.toNat, by omega, by omega⟩
section
variable {H : Type} {enc : TypeId × Value → H} {w : World} {base : Nat} {spare : Nat → Bool} {held : Bool}
theorem op_dec (n : Nat) (cs : List Value) (y : DataW H × List MemPlace) (hy : DataW.trod enc Tryd.prog w base spare held n 47 cs = some y) : ∃ u : OpV, cs = opCells u ∧ y.1 = opDat u ∧ opOk u := by
  obtain ⟨xs, m, rfl, rfl, hl, hx, hf⟩ := DataW.trod_struct Tryd.underlying47 hy
  have hl2 : cs.length = 2 := hl.trans (by kernel_rfl)
  have h0 := hf 0 _ rfl
  have h1 := hf 1 _ rfl
  have c5 : Tryd.prog.cellsOf 5 = 1 := by kernel_rfl
  have c9 : Tryd.prog.cellsOf 9 = 1 := by kernel_rfl
  change DataW.trod enc Tryd.prog w base spare held m 5 ((cs.drop 0).take (Tryd.prog.cellsOf 5)) = xs[0]? at h0
  change DataW.trod enc Tryd.prog w base spare held m 9 ((cs.drop 1).take (Tryd.prog.cellsOf 9)) = xs[1]? at h1
  rw [c5] at h0
  rw [c9] at h1
  match cs, hl2 with
  | [u0, u1], _ =>
    match xs, hx with
    | [x0, x1], _ =>
      obtain ⟨k, e0, rfl, hk⟩ := DataW.trod_int Tryd.underlying5 h0
      obtain ⟨t, e1, rfl, ht⟩ := DataW.trod_string Tryd.underlying9 h1
      simp at e0 e1
      obtain ⟨k, rfl, hk2⟩ := u8_nat' hk
      subst e0; subst e1
      exact ⟨(k, t), rfl, rfl, hk2, ht⟩
theorem open_ops {t : TypeId} {a : Option Addr} {len cap : Nat} {d : DataW H} {p : List MemPlace} (ht : Tryd.prog.underlying t = some (.slice 47))
    (h : DataW.Trod enc Tryd.prog w base spare held t (.slice a len cap) d p) :
    ∃ us : List OpV, us.length = len ∧ Reads w w.heap.size 2 a len (us.flatMap opCells) ∧ len ≤ cap ∧ (∀ u ∈ us, opOk u) ∧ ((len = 0 ∧ d = .nil) ∨ ∃ sp, d = .slice (us.map opDat) sp) := by
  obtain ⟨fuel, hf⟩ := h
  haveI : Inhabited OpV := ⟨(0, ByteArray.empty)⟩
  exact Opens.open_reads opCells opDat opOk 2 (fun _ => rfl) (by omega) ht (by kernel_rfl) op_dec hf
end
theorem flat_two (us : List OpV) : ∀ i, i < us.length → ((us.flatMap opCells)[i * 2]? = some (.int .u8 (us.getD i (0, E)).1) ∧ (us.flatMap opCells)[i * 2 + 1]? = some (.string (us.getD i (0, E)).2)) := by
  induction us with
  | nil => intro i h; simp at h
  | cons u us ih =>
    intro i hi
    rw [List.flatMap_cons]
    cases i with
    | zero => exact ⟨rfl, rfl⟩
    | succ j =>
      have := ih j (by simpa using hi)
      rw [show (j + 1) * 2 = j * 2 + 2 by omega, show j * 2 + 2 + 1 = j * 2 + 1 + 2 by omega]
      simpa [opCells] using this
/-- The cells of one call among the calls. -/
theorem op_at {W w : World} {A : Option Addr} {l : Nat} {xs : List OpV} (hr : Reads W W.heap.size 2 A l (xs.flatMap opCells)) (hx : xs.length = l) (hb : Below W.heap.size W w) {i : Nat} (hi : i < l) :
    ∃ g off, A = some ⟨g, off, none⟩ ∧ w.cell? ⟨g, off + i * 2, none⟩ = some (.int .u8 (xs.getD i (0, E)).1) ∧ w.cell? ⟨g, off + i * 2 + 1, none⟩ = some (.string (xs.getD i (0, E)).2) ∧ g < W.heap.size := by
  obtain ⟨ad, rfl, hlt, hc⟩ := hr.2 (by omega)
  obtain ⟨h0, h1⟩ := flat_two xs i (by omega)
  have c0 := hc _ _ h0
  have c1 := hc _ _ h1
  obtain ⟨z0, _⟩ := flat_two xs 0 (by omega)
  have cz := hc 0 _ z0
  obtain ⟨g, off, spot⟩ := ad
  have hspot : spot = none := by simpa [Addr.add] using World.cell?_spot cz
  subst hspot
  have ea : ∀ j, (Addr.mk g off none).add j = ⟨g, off + j, none⟩ := fun j => by unfold Addr.add; split <;> simp_all
  rw [ea] at c0 c1
  exact ⟨g, off, rfl, (hb.cell (p := ⟨g, off + i * 2, none⟩) hlt).trans c0, (hb.cell (p := ⟨g, off + i * 2 + 1, none⟩) hlt).trans c1, hlt⟩
theorem step_none {s : RS} (hb : s.bound = 0) (he : s.ents = []) (k : Nat) (t : ByteArray) : (step s k t).bound = 0 ∧ (step s k t).ents = [] := by
  have hk : ∀ ah, (kill s t ah).bound = 0 ∧ (kill s t ah).ents = [] := by
    intro ah
    unfold kill
    split
    · exact ⟨hb, he⟩
    · rw [if_neg (by rw [he]; simp)]
      exact ⟨hb, by simp [hb]⟩
  unfold step
  split
  · exact hk _
  · exact hk _
  · unfold copy
    split
    · exact ⟨hb, he⟩
    · exact ⟨hb, by simp [hb]⟩
  · unfold yank
    split <;> exact ⟨hb, he⟩
  · unfold pop
    split <;> exact ⟨hb, he⟩
  · exact ⟨hb, he⟩
  · exact ⟨hb, he⟩
theorem Pair.zero {W w1 w2 : World} {c : Nat} (hW : Below W.heap.size W w1) (hr : RAt w2 c (.slice none 0 0) (start 0)) (hk : (w1.alloc (.cells #[.int .i64 0, .slice none 0 0, .int .i64 0, .int .i64 0] 53)).heap.size ≤ c)
    (hb : Below (w1.alloc (.cells #[.int .i64 0, .slice none 0 0, .int .i64 0, .int .i64 0] 53)).heap.size (w1.alloc (.cells #[.int .i64 0, .slice none 0 0, .int .i64 0, .int .i64 0] 53)) w2) : Pair W w2 w1.heap.size c (.slice none 0 0) (.slice none 0 0) (start 0) := by
  have hs := hW.size
  have hp : PAt (w1.alloc (.cells #[.int .i64 0, .slice none 0 0, .int .i64 0, .int .i64 0] 53)) w1.heap.size (.slice none 0 0) (start 0) := ⟨0, ⟨Blk.new _ _ _, Own.nil _⟩, fun _ => rfl⟩
  simp only [World.size_alloc] at hk
  refine ⟨hp.upd (Upd.below hb No) (fun _ _ h => h), hr, Inv.start 0, ?_, ?_, ?_, ?_⟩
  · rintro k (rfl | h) (h' | h')
    · omega
    · simp [Value.ownBlock] at h'
    · simp [Value.ownBlock] at h
    · simp [Value.ownBlock] at h
  · rintro k (rfl | h)
    · exact hs
    · simp [Value.ownBlock] at h
  · rintro k (rfl | h)
    · omega
    · simp [Value.ownBlock] at h
  · exact (hW.alloc hs _).trans (hb.mono (by simp; omega))
theorem Pair.far {w0 w : World} {b c : Nat} {v u : Value} {s : RS} (h : Pair w0 w b c v u s) {k : Nat} (hk : w.heap.size ≤ k) : ¬ (foot b v k ∨ foot c u k) := by
  rintro (e | e)
  · have := h.p.lt k e; omega
  · have := h.r.lt k e; omega
set_option maxHeartbeats 3200000 in
set_option maxRecDepth 100000 in
theorem none_walk (W : World) (A : Option Addr) (l cp : Nat) (xs : List OpV) (hx : xs.length = l) (hr : Reads W W.heap.size 2 A l (xs.flatMap opCells)) (hc : l ≤ cp) (hm : ∀ u ∈ xs, opOk u) (hl : l ≤ 10000000000000) :
    Calls Tryd.prog 8 #[.slice A l cp] W fun e W' => e = .returned (.bool true) ∧ Below W.heap.size W W' := by
  have HR := Lib.hid hr
  have HX := Lib.hid hx
  have HM := Lib.hid hm
  clear hr hm
  go_enter Tryd.func8, Tryd.ntmps8
  go_wp2_with (first
    | (go_at_call 9; refine (kills W).mono ?_; rintro e w1 ⟨rfl, hb⟩; have HW := Lib.hid hb; clear hb)
    | (go_at_call 21; refine (new_r _ 0).mono ?_; rintro e w2 ⟨c, rfl, hr, hk, hbel⟩; have HP := Lib.hid (Pair.zero HW.out hr hk hbel); clear hr hk hbel HW))
  generalize w1.heap.size = b at *
  go_loopg [20] l (fun k v20 w' => ∃ i : Nat, v20 = .int .i64 i ∧ i + k = l ∧ ∃ s v u, Hid (s.bound = 0 ∧ s.ents = []) ∧ Hid (Pair W w' b c v u s))
  case atStart => exact ⟨0, rfl, by omega, _, _, _, Lib.hid ⟨rfl, rfl⟩, HP⟩
  case round =>
    clear HP
    obtain ⟨i, rfl, hik, s, v, u, HS, HP⟩ := hrel
    cases gk with
    | zero =>
      have e1 : decide ((i : Int) < (l : Int)) = false := by simp; omega
      go_wp2
      go_ret
      exact ⟨rfl, HP.out.below⟩
    | succ k1 =>
      have hi : i < l := by omega
      have e1 : decide ((i : Int) < (l : Int)) = true := by simp [hi]
      obtain ⟨g, off, rfl, d0, d1, hg⟩ := op_at HR.out HX.out HP.out.below hi
      generalize xs.getD i (0, E) = o at *
      obtain ⟨k, t⟩ := o
      have HQ := fun ob : Obj => Lib.hid (HP.out.boxed ob)
      have HZ : Hid (Fit s t) := Lib.hid (fun h => by rw [HS.out.2] at h; simp at h)
      have HS2 := Lib.hid (step_none HS.out.1 HS.out.2 k t)
      dsimp only at d0 d1
      have hfar := HP.out.far (Nat.le_refl _)
      go_wp2_with (first
        | (go_at_call 24; refine (play k t (HQ _).out HZ.out).mono ?_; rintro e w3 ⟨rfl, v1, u1, hp, hu⟩; have HP1 := Lib.hid hp; have q1 := hu.cell (a := ⟨wr.heap.size, 1, none⟩) (v := .string t) (by simp) hfar; clear hp hu)
        | (go_at_call 22; refine (agree HP1.out).mono ?_; rintro e w4 ⟨rfl, hb⟩; have HP2 := Lib.hid (HP1.out.later hb); have q2 := (hb.cell (p := ⟨wr.heap.size, 1, none⟩) (World.block_lt_of_cell? w3 _ q1)).trans q1; clear hb)
        | (go_at_call 13; refine (Ring.nil_kill _ _ _).mono ?_; rintro e w5 ⟨rfl, rfl⟩)
        | (go_at_call 11; refine (Ring.nil_copy _ _).mono ?_; rintro e w5 ⟨rfl, rfl⟩)
        | (go_at_call 25; refine (Ring.nil_len _).mono ?_; rintro e w5 ⟨rfl, rfl⟩)
        | (go_at_call 19; refine (Ring.nil_bound _).mono ?_; rintro e w5 ⟨rfl, rfl⟩)
        | (go_at_call 12; refine (Ring.nil_all _).mono ?_; rintro e w5 ⟨rfl, rfl⟩)
        | (go_at_call 15; refine (Ring.nil_killing _).mono ?_; rintro e w5 ⟨rfl, rfl⟩)
        | (go_at_call 26; refine (Ring.nil_yanking _).mono ?_; rintro e w5 ⟨rfl, rfl⟩)
        | (go_at_call 17; refine (Ring.nil_yank _).mono ?_; rintro e w5 ⟨rfl, rfl⟩)
        | (go_at_call 18; refine (Ring.nil_pop _).mono ?_; rintro e w5 ⟨rfl, rfl⟩)
        | (go_at_call 16; refine (Ring.nil_stop _).mono ?_; rintro e w5 ⟨rfl, rfl⟩)
        | (go_at_call 20; refine (Ring.nil_clone _).mono ?_; rintro e w5 ⟨rfl, rfl⟩))
      go_roundg k1
      case measure => omega
      case rel => exact ⟨i + 1, by simp, by omega, _, _, _, HS2, HP2⟩
theorem ops_len {W : World} {A : Option Addr} {l : Nat} {xs : List OpV} (hr : Reads W W.heap.size 2 A l (xs.flatMap opCells)) : xs.length = l := by
  have := hr.1
  rw [Opens.flat_len opCells 2 (fun _ => rfl)] at this
  omega
theorem reach_len {l b : Nat} (h : l * b ≤ reachBytes) (hb : 16 ≤ b) : l ≤ 10000000000000 := by
  have h1 : reachBytes = 140737488351232 := by rfl
  have : l * 16 ≤ l * b := Nat.mul_le_mul_left _ hb
  omega
theorem none_row (W : World) (A : Option Addr) (l cp : Nat) (xs : List OpV) (hr : Reads W W.heap.size 2 A l (xs.flatMap opCells)) (hc : l ≤ cp) (hm : ∀ u ∈ xs, opOk u) (y : l * 24 ≤ reachBytes) :
    Calls Tryd.prog 8 #[.slice A l cp] W fun e W' => e = .returned (.bool true) ∧ Below W.heap.size W W' := none_walk W A l cp xs (ops_len hr) hr hc hm (reach_len y (by omega))
end Both
end Go.Proofs.YtlflohbpdapiiaaDoor
