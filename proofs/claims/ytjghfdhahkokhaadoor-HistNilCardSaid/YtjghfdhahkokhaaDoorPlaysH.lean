/- The walk of HistPlays: every call in every order; two histories don't know of one another. And a slice of Ops, opened. -/
import Derived.Test.YtjghfdhahkokhaaDoorStepH
set_option linter.unusedVariables false
namespace Go.Proofs.YtjghfdhahkokhaaDoor
open Go.RowKit Go.Proofs.YtjghfdhahkokhaaDoorW.PrintWords Go.Proofs.YtjghfdhahkokhaaDoor.Sep Go.Proofs.YtjghfdhahkokhaaDoor.Libs
open Go.ChangeShapes Go.WideShapes Go.Deep
namespace Hist
def opCells (o : OpV) : List Value := [.int .i64 o.1, .string o.2.1, .int .i64 o.2.2]
def opDat {H : Type} (o : OpV) : DataW H := .agg [.lit (.int .i64 o.1), Opens.strLit o.2.1, .lit (.int .i64 o.2.2)]
def opOk (o : OpV) : Prop := o.2.1.size ≤ maxLen
section
variable {H : Type} {enc : TypeId × Value → H} {w : World} {base : Nat} {spare : Nat → Bool} {held : Bool}
theorem op_dec (n : Nat) (cs : List Value) (y : DataW H × List MemPlace) (hy : DataW.trod enc Tryd.prog w base spare held n 49 cs = some y) : ∃ u : OpV, cs = opCells u ∧ y.1 = opDat u ∧ opOk u := by
  obtain ⟨xs, m, rfl, rfl, hl, hx, hf⟩ := DataW.trod_struct Tryd.underlying49 hy
  have hl2 : cs.length = 3 := hl.trans (by kernel_rfl)
  have h0 := hf 0 _ rfl
  have h1 := hf 1 _ rfl
  have h2 := hf 2 _ rfl
  have c3 : Tryd.prog.cellsOf 3 = 1 := by kernel_rfl
  have c9 : Tryd.prog.cellsOf 9 = 1 := by kernel_rfl
  change DataW.trod enc Tryd.prog w base spare held m 3 ((cs.drop 0).take (Tryd.prog.cellsOf 3)) = xs[0]? at h0
  change DataW.trod enc Tryd.prog w base spare held m 9 ((cs.drop 1).take (Tryd.prog.cellsOf 9)) = xs[1]? at h1
  change DataW.trod enc Tryd.prog w base spare held m 3 ((cs.drop 2).take (Tryd.prog.cellsOf 3)) = xs[2]? at h2
  rw [c3] at h0 h2
  rw [c9] at h1
  match cs, hl2 with
  | [u0, u1, u2], _ =>
    match xs, hx with
    | [x0, x1, x2], _ =>
      obtain ⟨k, e0, rfl, hk⟩ := DataW.trod_int Tryd.underlying3 h0
      obtain ⟨t, e1, rfl, ht⟩ := DataW.trod_string Tryd.underlying9 h1
      obtain ⟨j, e2, rfl, hj⟩ := DataW.trod_int Tryd.underlying3 h2
      simp at e0 e1 e2
      subst e0; subst e1; subst e2
      exact ⟨(k, t, j), rfl, rfl, ht⟩
theorem open_ops {t : TypeId} {a : Option Addr} {len cap : Nat} {d : DataW H} {p : List MemPlace} (ht : Tryd.prog.underlying t = some (.slice 49))
    (h : DataW.Trod enc Tryd.prog w base spare held t (.slice a len cap) d p) :
    ∃ us : List OpV, us.length = len ∧ Reads w w.heap.size 3 a len (us.flatMap opCells) ∧ len ≤ cap ∧ (∀ u ∈ us, opOk u) ∧ ((len = 0 ∧ d = .nil) ∨ ∃ sp, d = .slice (us.map opDat) sp) := by
  obtain ⟨fuel, hf⟩ := h
  haveI : Inhabited OpV := ⟨(0, ByteArray.empty, 0)⟩
  exact Opens.open_reads opCells opDat opOk 3 (fun _ => rfl) (by omega) ht (by kernel_rfl) op_dec hf
theorem sized_ops {ts : List TypeId} {ds : List (DataW H)} {j : Nat} {t : TypeId} {len : Nat} {d : DataW H} {us : List OpV} (hsz : (DataW.weightsEach Tryd.prog ts ds).all (· ≤ reachBytes) = true) (ht : ts[j]? = some t) (hd : ds[j]? = some d) (hu : Tryd.prog.underlying t = some (.slice 49))
    (hl : us.length = len) (h : (len = 0 ∧ d = .nil) ∨ ∃ sp, d = .slice (us.map opDat) sp) : ∀ u ∈ us, u.2.1.size ≤ reachBytes := by
  intro u hmem
  rcases h with ⟨rfl, _⟩ | ⟨sp, rfl⟩
  · rw [List.eq_nil_of_length_eq_zero hl] at hmem
    cases hmem
  · have h1 : u.2.1.size ∈ (DataW.slice (us.map opDat) sp : DataW H).weights Tryd.prog t := by
      simp only [DataW.weights, hu, List.mem_cons, List.mem_append]
      refine .inr (.inl (Opens.weights_all_mem (List.mem_map.2 ⟨u, hmem, rfl⟩) _ ?_))
      show u.2.1.size ∈ (DataW.agg [.lit (.int .i64 u.1), Opens.strLit u.2.1, .lit (.int .i64 u.2.2)] : DataW H).weights Tryd.prog 49
      simp only [DataW.weights, Tryd.underlying49]
      show u.2.1.size ∈ DataW.weightsEach Tryd.prog [3, 9, 3] [.lit (.int .i64 u.1), .lit (.string u.2.1.data.toList), .lit (.int .i64 u.2.2)]
      simp only [DataW.weightsEach, DataW.weights, List.nil_append, List.append_nil, List.mem_singleton, Array.length_toList]
      rfl
    have := List.all_eq_true.1 hsz _ (DataW.weights_mem_each ht hd _ h1)
    simpa using this
end
theorem flat_three (us : List OpV) : ∀ i, i < us.length → ((us.flatMap opCells)[i * 3]? = some (.int .i64 (us.getD i (0, E, 0)).1) ∧ (us.flatMap opCells)[i * 3 + 1]? = some (.string (us.getD i (0, E, 0)).2.1) ∧ (us.flatMap opCells)[i * 3 + 2]? = some (.int .i64 (us.getD i (0, E, 0)).2.2)) := by
  induction us with
  | nil => intro i h; simp at h
  | cons u us ih =>
    intro i hi
    rw [List.flatMap_cons]
    cases i with
    | zero => exact ⟨rfl, rfl, rfl⟩
    | succ j =>
      have := ih j (by simpa using hi)
      rw [show (j + 1) * 3 = j * 3 + 3 by omega, show j * 3 + 3 + 1 = j * 3 + 1 + 3 by omega, show j * 3 + 3 + 2 = j * 3 + 2 + 3 by omega]
      simpa [opCells] using this
/-- The cells of one call among the calls. -/
theorem op_at {W w : World} {A : Option Addr} {l : Nat} {xs : List OpV} (hr : Reads W W.heap.size 3 A l (xs.flatMap opCells)) (hx : xs.length = l) (hb : Below W.heap.size W w) {i : Nat} (hi : i < l) :
    ∃ g off, A = some ⟨g, off, none⟩ ∧ w.cell? ⟨g, off + i * 3, none⟩ = some (.int .i64 (xs.getD i (0, E, 0)).1) ∧ w.cell? ⟨g, off + i * 3 + 1, none⟩ = some (.string (xs.getD i (0, E, 0)).2.1) ∧ w.cell? ⟨g, off + i * 3 + 2, none⟩ = some (.int .i64 (xs.getD i (0, E, 0)).2.2) ∧ g < W.heap.size := by
  obtain ⟨ad, rfl, hlt, hc⟩ := hr.2 (by omega)
  obtain ⟨h0, h1, h2⟩ := flat_three xs i (by omega)
  have c0 := hc _ _ h0
  have c1 := hc _ _ h1
  have c2 := hc _ _ h2
  obtain ⟨z0, _⟩ := flat_three xs 0 (by omega)
  have cz := hc 0 _ z0
  obtain ⟨g, off, spot⟩ := ad
  have hspot : spot = none := by simpa [Addr.add] using World.cell?_spot cz
  subst hspot
  have ea : ∀ j, (Addr.mk g off none).add j = ⟨g, off + j, none⟩ := fun j => by unfold Addr.add; split <;> simp_all
  rw [ea] at c0 c1 c2
  exact ⟨g, off, rfl, (hb.cell (p := ⟨g, off + i * 3, none⟩) hlt).trans c0, (hb.cell (p := ⟨g, off + i * 3 + 1, none⟩) hlt).trans c1, (hb.cell (p := ⟨g, off + i * 3 + 2, none⟩) hlt).trans c2, hlt⟩
/-- The pair, and another history beside it. -/
structure PO (W w : World) (b c : Nat) (r : Pr) (q : RefH.Pr) (s : HS) (o : Nat) (ro : Pr) (so : HS) : Prop where
  pr : Pair W w b c r q s s
  ot : At w o ro so
  oi : Inv so
  ap : ∀ k, foot o ro k → ¬ foots b c r q k
  on : ∀ k, foot o ro k → W.heap.size ≤ k
section
variable {W w w' : World} {b c o : Nat} {r r' ro : Pr} {q q' : RefH.Pr} {s s' so : HS}
theorem PO.step (h : PO W w b c r q s o ro so) (hp : Pair W w' b c r' q' s' s') (hu : Upd (foots b c r q) w w') (hf : Frs w b c r q r' q') : PO W w' b c r' q' s' o ro so :=
  ⟨hp, h.ot.upd hu (fun k hk hx => h.ap k hk hx), h.oi, fun k hk hx => (hf k hx).elim (h.ap k hk) (fun e => by have := h.ot.lt k hk; omega), h.on⟩
theorem PO.later (h : PO W w b c r q s o ro so) (hb : Below w.heap.size w w') : PO W w' b c r q s o ro so :=
  ⟨h.pr.later hb, h.ot.upd (Upd.below hb No) (fun _ _ h => h), h.oi, h.ap, h.on⟩
end
theorem foot_r0 {o n : Nat} (h : n ≤ o) : ∀ k, foot o r0 k → n ≤ k := by
  rintro k (rfl | hk | hk | hk)
  · exact h
  · simp [r0, Value.ownBlock] at hk
  · cases hk
  · cases hk
theorem foot_start {o n : Nat} {w3 : World} {ro : Pr} (h : n ≤ o) (hs : n ≤ w3.heap.size) (hf : Fr w3 o r0 ro) : ∀ k, foot o ro k → n ≤ k := fun k hk => (hf k hk).elim (foot_r0 h k) (fun e => Nat.le_trans hs e)
/-- The document's history is new too. -/
theorem new_pair2 {W w : World} {b o n2 : Nat} {ro : Pr} {so : HS} (n : Int) (hb : Below W.heap.size W w) (hp : HB W w b r0 (start n)) (ho : HB W w o ro so) (hlt : ∀ k, foot b r0 k → k < n2) (hge : ∀ k, foot o ro k → n2 ≤ k) :
    Calls Tryd.prog 23 #[.int .i64 n] w fun e w' => ∃ c, e = .returned (.pointer (some ⟨c, 0, none⟩)) ∧ PO W w' b c r0 RefH.r0 (start n) o ro so := by
  refine (RefH.new w n).mono ?_
  rintro e w' ⟨c, rfl, ha, hk, hw⟩
  have hp' := hp.later hw
  have ho' := ho.later hw
  have hc : ∀ k, RefH.foot c RefH.r0 k → w.heap.size ≤ k := by
    rintro k (rfl | h2 | h2)
    · exact hk
    · simp [RefH.r0, Value.ownBlock] at h2
    · simp [RefH.r0, Value.ownBlock] at h2
  refine ⟨c, rfl, ⟨hp'.at_, ha, hp.inv, hp.inv, fun k hk1 hk2 => ?_, hp.new, fun k hk2 => Nat.le_trans hb.size (hc k hk2), hp'.below⟩, ho'.at_, ho.inv, fun k h1 h2 => ?_, ho.new⟩
  · have h1 := hp.at_.lt k hk1
    have := hc k hk2
    omega
  · rcases h2 with h2 | h2
    · have := hlt k h2; have := hge k h1; omega
    · have := hc k h2; have := ho.at_.lt k h1; omega
def so1 : HS := ⟨3, [⟨#[111, 116, 104, 101, 114]⟩], 1, []⟩
def so2 : HS := ⟨3, [⟨#[111, 116, 104, 101, 114]⟩], 0, [(1, ⟨#[110, 111, 119]⟩)]⟩
theorem to1 : takes (start 3) ⟨#[111, 116, 104, 101, 114]⟩ = true := by
  simp [takes, start, ByteArray.toList_eq]
  decide
theorem ao1 : add (start 3) ⟨#[111, 116, 104, 101, 114]⟩ = so1 := by unfold add; rw [if_pos to1]; kernel_rfl
theorem bo2 : backT so1 ⟨#[110, 111, 119]⟩ = ⟨#[111, 116, 104, 101, 114]⟩ := by kernel_rfl
theorem co2 : backE so1 = 0 := by kernel_rfl
theorem do2 : back so1 ⟨#[110, 111, 119]⟩ = so2 := by kernel_rfl
theorem other_back {W w : World} {b c o : Nat} {r ro : Pr} {q : RefH.Pr} {s : HS} (h : PO W w b c r q s o ro so1) : Calls Tryd.prog 13 #[.pointer (some ⟨o, 0, none⟩), .string ⟨#[110, 111, 119]⟩] w fun e w' => e = .returned (.tuple #[.string ⟨#[111, 116, 104, 101, 114]⟩, .int .i64 0]) ∧ ∃ r', At w' o r' so2 ∧ Below W.heap.size W w' := by
  refine (back_ h.ot h.oi ⟨#[110, 111, 119]⟩).mono ?_
  rintro e w' ⟨rfl, r', ha, hu, hf⟩
  refine ⟨by rw [bo2, co2], r', by rw [do2] at ha; exact ha, h.pr.below.trans (hu.toBelow h.pr.below.size h.on)⟩
set_option maxHeartbeats 6400000 in
set_option maxRecDepth 100000 in
theorem plays (W : World) (n : Int) (A : Option Addr) (l cp : Nat) (xs : List OpV) (hx : xs.length = l) (hr : Reads W W.heap.size 3 A l (xs.flatMap opCells)) (hc : l ≤ cp) (hl : l ≤ 10000000000000) (hm : ∀ u ∈ xs, u.2.1.size ≤ 1000000000000000) :
    Calls Tryd.prog 8 #[.int .i64 n, .slice A l cp] W fun e W' => e = .returned (.bool true) ∧ Below W.heap.size W W' := by
  have HR := Lib.hid hr
  have HX := Lib.hid hx
  have HM : Hid (∀ i, i < l → (xs.getD i (0, E, 0)).2.1.size ≤ 1000000000000000) := Lib.hid (fun i hi => by
    refine hm _ ?_
    have : i < xs.length := by omega
    simp [List.getD, this])
  clear hr hm hx
  go_enter Tryd.func8, Tryd.ntmps8
  go_wp2_with (first
    | (go_at_call 10; refine (awake W).mono ?_; rintro e w1 ⟨rfl, hb⟩; have HW := Lib.hid hb; clear hb)
    | (go_at_call 22; refine (new_h (w0 := W) n HW.out).mono ?_; rintro e w2 ⟨b, rfl, hp, hb2, hk2⟩; have HP0 := Lib.hid hp; have HW2 := Lib.hid (HW.out.trans (hb2.mono HW.out.size)); clear hp hb2 hk2)
    | (go_at_call 22; refine (new_h (w0 := W) 3 HW2.out).mono ?_; rintro e w3 ⟨o, rfl, hp, hb3, hk3⟩; have HO0 := Lib.hid hp; have HPB := Lib.hid (HP0.out.later hb3); have HBL := Lib.hid (fun k (hk : foot b r0 k) => HP0.out.at_.lt k hk); have HOK := Lib.hid hk3; have HSZ := Lib.hid hb3.size; clear hp hb3 hk3)
    | (go_at_call 24; refine (add_h ⟨#[111, 116, 104, 101, 114]⟩ HO0.out true to1 so1 ao1).mono ?_; rintro e w4 ⟨rfl, ro, hp, hu, hf⟩; have HO1 := Lib.hid hp; have HON := Lib.hid (foot_start HOK.out HSZ.out hf); have HPC := Lib.hid (HPB.out.beside hu (fun k hk => ⟨HO0.out.new k hk, fun hx => by have := HBL.out k hx; have := foot_r0 HOK.out k hk; omega⟩)); clear hp hu hf)
    | (go_at_call 23; refine (new_pair2 n HO1.out.below HPC.out HO1.out HBL.out HON.out).mono ?_; rintro e w5 ⟨c, rfl, hp⟩; have HP5 := Lib.hid hp; clear hp)
    | (go_at_call 27; refine (seen HP5.out.pr).mono ?_; rintro e w6 ⟨rfl, hb⟩; have HP6 := Lib.hid (HP5.out.later hb); clear hb))
  have HS0 : Hid (Sm (start n)) := Lib.hid (fun i hi => by simp [start] at hi)
  generalize start n = s00 at *
  go_loopg [8] l (fun k v8 w' => ∃ i : Nat, v8 = .int .i64 i ∧ i + k = l ∧ ∃ s r q, Hid (PO W w' b c r q s o ro so1) ∧ Hid (Sm s))
  case atStart => exact ⟨0, rfl, by omega, _, _, _, HP6, HS0⟩
  case round =>
    clear HP5 HP6 HS0 HPB HPC HP0 HO0 HO1 HON HBL
    obtain ⟨i, rfl, hik, s, r, q, HP, HSm⟩ := hrel
    rename World => wz
    cases gk with
    | zero =>
      have e1 : decide ((i : Int) < (l : Int)) = false := by simp; omega
      go_wp2_with (first
        | (go_at_call 13; refine (other_back HP.out).mono ?_; rintro e w7 ⟨rfl, r7, ha, hb⟩; have HA7 := Lib.hid ha; have HB7 := Lib.hid hb; clear ha hb)
        | (go_at_call 18; refine (len _ _ _ _ HA7.out).mono ?_; rintro e w8 ⟨rfl, rfl⟩))
      go_ret
      exact ⟨by simp [so2], HB7.out⟩
    | succ k1 =>
      have hi : i < l := by omega
      have e1 : decide ((i : Int) < (l : Int)) = true := by simp [hi]
      obtain ⟨g, off, rfl, d0, d1, d2, hg⟩ := op_at HR.out HX.out HP.out.pr.below hi
      have HT := Lib.hid (HM.out i hi)
      generalize xs.getD i (0, E, 0) = u at d0 d1 d2 HT
      obtain ⟨k, t, m⟩ := u
      dsimp only at d0 d1 d2 HT
      go_wp2_with (go_at_call 31; refine (step_ HP.out.pr k t m HSm.out HT.out).mono ?_; rintro e w7 ⟨rfl, r7, q7, hp, hu, hf⟩; have HP7 := Lib.hid (HP.out.step hp hu hf); have HS7 := Lib.hid (HSm.out.stp k t m HT.out); clear hp hu hf)
      go_roundg k1
      case measure => omega
      case rel => exact ⟨i + 1, by simp, by omega, _, _, _, HP7, HS7⟩
theorem plays_row (W : World) (n : Int) (wn : (Lit.int .i64 n).wf = true) (A : Option Addr) (l cp : Nat) (xs : List OpV) (hr : Reads W W.heap.size 3 A l (xs.flatMap opCells)) (hc : l ≤ cp) (hm : ∀ u ∈ xs, u.2.1.size ≤ reachBytes) (y : l * 32 ≤ reachBytes) :
    Calls Tryd.prog 8 #[.int .i64 n, .slice A l cp] W fun e W' => e = .returned (.bool true) ∧ Below W.heap.size W W' := by
  have e : reachBytes = 140737488351232 := by rfl
  have hx : xs.length = l := by
    have h1 := hr.1
    rw [Opens.flat_len opCells 3 (fun _ => rfl)] at h1
    omega
  exact plays W n A l cp xs hx hr hc (by omega) (fun u hu => by have := hm u hu; omega)
end Hist
end Go.Proofs.YtjghfdhahkokhaaDoor
