/- long and texts: groups of edits that came in, read. -/
import Derived.Test.YtkpcnfchhnfpoaaDoorSeq
import Derived.Test.YtkpcnfchhnfpoaaDoorMergesH
set_option linter.unusedVariables false
namespace Go.Proofs.YtkpcnfchhnfpoaaDoor
open Go.RowKit Go.Proofs.YtkpcnfchhnfpoaaDoorW.PrintWords Go.Proofs.YtkpcnfchhnfpoaaDoor.Sep Log
namespace Log
/-- A slice of edits that came in: where, how many, room, which. -/
abbrev GV := Option Addr × Nat × Nat × List Edit
abbrev E0 : Edit := (0, 0, E)
abbrev G0 : GV := (none, 0, 0, [])
def ecells (e : Edit) : List Value := [.int .i64 e.1, .int .i64 e.2.1, .string e.2.2]
def gcell (g : GV) : Value := .slice g.1 g.2.1 g.2.2.1
structure GOk (w : World) (B : Nat) (g : GV) : Prop where
  len : g.2.2.2.length = g.2.1
  reads : Reads w B 3 g.1 g.2.1 (g.2.2.2.flatMap ecells)
structure ReadsG (w : World) (B : Nat) (A : Option Addr) (n : Nat) (gs : List GV) : Prop where
  len : gs.length = n
  reads : Reads w B 1 A n (gs.map gcell)
  each : ∀ g ∈ gs, GOk w B g
theorem flat_e (us : List Edit) : ∀ i, i < us.length → ((us.flatMap ecells)[i * 3]? = some (.int .i64 (us.getD i E0).1) ∧ (us.flatMap ecells)[i * 3 + 1]? = some (.int .i64 (us.getD i E0).2.1) ∧ (us.flatMap ecells)[i * 3 + 2]? = some (.string (us.getD i E0).2.2)) := by
  induction us with
  | nil => intro i h; simp at h
  | cons u us ih =>
    intro i hi
    rw [List.flatMap_cons]
    cases i with
    | zero => exact ⟨rfl, rfl, rfl⟩
    | succ j =>
      have := ih j (by simpa using hi)
      rw [show (j + 1) * 3 = j * 3 + 3 by omega, show j * 3 + 3 + 1 = j * 3 + 1 + 3 by omega, show j * 3 + 3 + 2 = j * 3 + 2 + 3 by omega]
      simpa [ecells] using this
theorem spot_none {w : World} {ad : Addr} {v : Value} (h : w.cell? (ad.add 0) = some v) : ∃ g off, ad = ⟨g, off, none⟩ := by
  obtain ⟨g, off, spot⟩ := ad
  have hspot : spot = none := by simpa [Addr.add] using World.cell?_spot h
  subst hspot
  exact ⟨g, off, rfl⟩
theorem edit_at {w : World} {B : Nat} {g : GV} (h : GOk w B g) {i : Nat} (hi : i < g.2.1) :
    ∃ k off, g.1 = some ⟨k, off, none⟩ ∧ w.cell? ⟨k, off + i * 3, none⟩ = some (.int .i64 (g.2.2.2.getD i E0).1) ∧ w.cell? ⟨k, off + i * 3 + 1, none⟩ = some (.int .i64 (g.2.2.2.getD i E0).2.1) ∧ w.cell? ⟨k, off + i * 3 + 2, none⟩ = some (.string (g.2.2.2.getD i E0).2.2) ∧ k < B := by
  obtain ⟨ad, e, hlt, hc⟩ := h.reads.2 (by omega)
  have hx := h.len
  obtain ⟨h0, h1, h2⟩ := flat_e g.2.2.2 i (by omega)
  have c0 := hc _ _ h0
  have c1 := hc _ _ h1
  have c2 := hc _ _ h2
  obtain ⟨z0, _⟩ := flat_e g.2.2.2 0 (by omega)
  have cz := hc 0 _ z0
  obtain ⟨k, off, rfl⟩ := spot_none cz
  rw [add_off] at c0 c1 c2
  exact ⟨k, off, e, c0, c1, c2, hlt⟩
theorem group_at {w : World} {B : Nat} {A : Option Addr} {n : Nat} {gs : List GV} (h : ReadsG w B A n gs) {i : Nat} (hi : i < n) :
    ∃ k off, A = some ⟨k, off, none⟩ ∧ w.cell? ⟨k, off + i, none⟩ = some (gcell (gs.getD i G0)) ∧ GOk w B (gs.getD i G0) ∧ k < B := by
  obtain ⟨ad, e, hlt, hc⟩ := h.reads.2 (by omega)
  have hl := h.len
  have hget : ∀ j, j < n → (gs.map gcell)[j]? = some (gcell (gs.getD j G0)) := fun j hj => by simp [List.getD, show j < gs.length by omega]
  have cz := hc 0 _ (hget 0 (by omega))
  obtain ⟨k, off, rfl⟩ := spot_none cz
  have c0 := hc _ _ (hget i hi)
  rw [add_off] at c0
  refine ⟨k, off, e, c0, h.each _ ?_, hlt⟩
  simp [List.getD, show i < gs.length by omega]
def esum (es : List Edit) : Nat := (es.map fun e => 1 + e.2.2.size).sum
def gsum (gs : List GV) : Nat := (gs.map fun g => esum g.2.2.2).sum
def tot (t : ByteArray) (gs : List GV) : Nat := t.size + gs.length + gsum gs
theorem esum_take (es : List Edit) (j : Nat) (hj : j < es.length) : esum (es.take (j + 1)) = esum (es.take j) + (1 + (es.getD j E0).2.2.size) := by
  unfold esum
  rw [List.take_add_one, List.map_append, List.sum_append, List.getElem?_eq_getElem hj]
  simp [List.getD, hj]
theorem gsum_take (gs : List GV) (j : Nat) (hj : j < gs.length) : gsum (gs.take (j + 1)) = gsum (gs.take j) + esum (gs.getD j G0).2.2.2 := by
  unfold gsum
  rw [List.take_add_one, List.map_append, List.sum_append, List.getElem?_eq_getElem hj]
  simp [List.getD, hj]
theorem esum_mono (es : List Edit) (j : Nat) : esum (es.take j) ≤ esum es := by
  conv => rhs; rw [← List.take_append_drop j es]
  unfold esum
  rw [List.map_append, List.sum_append]
  omega
theorem gsum_mono (gs : List GV) (j : Nat) : gsum (gs.take j) ≤ gsum gs := by
  conv => rhs; rw [← List.take_append_drop j gs]
  unfold gsum
  rw [List.map_append, List.sum_append]
  omega
theorem esum_len (es : List Edit) : es.length ≤ esum es := by
  unfold esum
  induction es with
  | nil => simp
  | cons e es ih => simp only [List.map_cons, List.sum_cons, List.length_cons]; omega
set_option maxHeartbeats 6400000
theorem long_c (w : World) (t : ByteArray) (A : Option Addr) (n c : Nat) (gs : List GV) (h : ReadsG w w.heap.size A n gs) (hz : tot t gs ≤ 1000000000000) (b : Bool) (hb : decide (65536 < tot t gs) = b) :
    Calls Tryd.prog 19 #[.string t, .slice A n c] w fun e w' => e = .returned (.bool b) ∧ w = w' := by
  subst hb
  have hl := h.len
  have HR := Lib.hid h
  have HZ := Lib.hid hz
  obtain ⟨tt, htt⟩ : ∃ tt, tt = tot t gs := ⟨_, rfl⟩
  rw [← htt]
  have HT := Lib.hid htt
  have hzt : t.size + n ≤ 1000000000000 := by unfold tot at hz; omega
  obtain ⟨q, hq⟩ : ∃ q, q = t.size + n := ⟨_, rfl⟩
  have z1 : IntKind.i64.wrap ((t.size : Int) + (n : Int)) = (q : Int) := by rw [IntKind.wrap_i64]; omega
  have HQ := Lib.hid hq
  clear h hz htt hq
  go_enter Tryd.func19, Tryd.ntmps19
  go_wp2
  go_loopg [6, 5] n (fun k v6 v5 w' => ∃ i : Nat, v6 = .int .i64 i ∧ i + k = n ∧ ∃ m : Nat, v5 = .int .i64 m ∧ Hid (m = q + gsum (gs.take i)) ∧ w' = w)
  case atStart => exact ⟨0, rfl, by omega, q, rfl, Lib.hid (by simp [gsum]), rfl⟩
  case round =>
    obtain ⟨i, rfl, hik, m, rfl, HM, rfl⟩ := hrel
    cases gk with
    | zero =>
      have e1 : decide (i < n) = false := by simp; omega
      have HE : Hid (m = tt) := Lib.hid (by rw [HM.out, HT.out, List.take_of_length_le (by omega), HQ.out]; unfold tot; omega)
      clear HM
      go_wp2
      go_ret
      refine ⟨?_, rfl⟩
      rw [← HE.out]
      simp
      omega
    | succ k1 =>
      have hi : i < n := by omega
      have e1 : decide (i < n) = true := by simp [hi]
      obtain ⟨k, off, rfl, c0, hok, hk⟩ := group_at HR.out hi
      have HGS := Lib.hid (gsum_take gs i (by omega))
      have HGM := Lib.hid (gsum_mono gs (i + 1))
      obtain ⟨g, hg⟩ : ∃ g, g = gs.getD i G0 := ⟨_, rfl⟩
      rw [← hg] at c0 hok HGS
      clear hg
      have HOK := Lib.hid hok
      have hgl := hok.len
      obtain ⟨gA, gn, gc, ges⟩ := g
      unfold gcell at c0
      dsimp only at c0 hgl HGS
      clear hok
      have hgn : gn ≤ 1000000000000 := by
        have h1 := esum_len ges
        have h4 := HGM.out
        have h5 := HGS.out
        have h7 := HZ.out
        unfold tot at h7
        omega
      go_wp2
      go_loopg [7, 5] gn (fun k' v7 v5 w' => ∃ j : Nat, v7 = .int .i64 j ∧ j + k' = gn ∧ ∃ m' : Nat, v5 = .int .i64 m' ∧ Hid (m' = m + esum (ges.take j)) ∧ w' = wr)
      case atStart => exact ⟨0, rfl, by omega, m, rfl, Lib.hid (by simp [esum]), rfl⟩
      case round =>
        obtain ⟨j, rfl, hjk, m', rfl, HM', rfl⟩ := hrel
        cases gk with
        | zero =>
          have e2 : decide (j < gn) = false := by simp; omega
          have HE : Hid (m' = q + gsum (gs.take (i + 1))) := Lib.hid (by rw [HM'.out, HM.out, HGS.out, List.take_of_length_le (l := ges) (i := j) (by omega)]; omega)
          clear HM'
          go_wp2
          go_roundg k1
          case measure => omega
          case rel => exact ⟨i + 1, by simp, by omega, m', rfl, HE, rfl⟩
        | succ k2 =>
          have hj : j < gn := by omega
          have e2 : decide (j < gn) = true := by simp [hj]
          obtain ⟨k3, off3, e3, d0, d1, d2, hk3⟩ := edit_at HOK.out hj
          dsimp only at e3 d0 d1 d2
          have HES := Lib.hid (esum_take ges j (by omega))
          have HEM := Lib.hid (esum_mono ges (j + 1))
          generalize ges.getD j E0 = x at *
          obtain ⟨x0, x1, x2⟩ := x
          dsimp only at d0 d1 d2 HES
          have hsz : m' + (1 + x2.size) ≤ 1000000000000 := by
            have h1 := HM'.out
            have h2 := HM.out
            have h3 := HGS.out
            have h4 := HGM.out
            have h5 := HES.out
            have h6 := HEM.out
            have h7 := HZ.out
            have h8 := HQ.out
            unfold tot at h7
            omega
          have z2 : IntKind.i64.wrap (1 + (x2.size : Int)) = ((1 + x2.size : Nat) : Int) := by rw [IntKind.wrap_i64]; omega
          obtain ⟨m2, hm2⟩ : ∃ m2, m2 = m' + (1 + x2.size) := ⟨_, rfl⟩
          have z3 : IntKind.i64.wrap ((m' : Int) + (1 + (x2.size : Int))) = (m2 : Int) := by rw [IntKind.wrap_i64]; omega
          have HM2 := Lib.hid hm2
          clear hm2
          subst e3
          go_wp2
          go_roundg k2
          case measure => omega
          case rel => exact ⟨j + 1, by simp, by omega, m2, rfl, Lib.hid (by rw [HM2.out, HM'.out, HES.out]; omega), rfl⟩
end Log
end Go.Proofs.YtkpcnfchhnfpoaaDoor
