/- The walk of RingChains: kills right behind one another are one entry. -/
import Derived.Test.YtlflohbpdapiiaaDoorBounds
import Derived.Test.YtlflohbpdapiiaaDoorPlays
set_option linter.unusedVariables false
namespace Go.Proofs.YtlflohbpdapiiaaDoor
open Go.RowKit Go.Proofs.YtlflohbpdapiiaaDoorW.PrintWords Go.Proofs.YtlflohbpdapiiaaDoor.Sep Go.Proofs.YtlflohbpdapiiaaDoor.Libs
open Go.Proofs.YtlflohbpdapiiaaDoor.Ring (RS foot joined)
namespace Both
theorem reads_str {w : World} {B : Nat} {A : Option Addr} {n : Nat} {xs : List ByteArray} (h : Reads w B 1 A n (xs.map Value.string)) : xs.length = n ∧ ∀ i, i < n → ∃ ad, A = some ad ∧ w.cell? (ad.add i) = some (.string (xs.getD i E)) := by
  have hl : xs.length = n := by simpa using h.1
  refine ⟨hl, fun i hi => ?_⟩
  obtain ⟨ad, u, rfl, _, hu, hc⟩ := h.at_ hi
  refine ⟨ad, rfl, ?_⟩
  rw [hc]
  have hi' : i < xs.length := by omega
  simp [hi'] at hu
  subst hu
  simp [List.getD, hi']
set_option maxHeartbeats 800000 in
/-- SameTexts, for lists that are parts of rows. -/
theorem same_r (w : World) (B B' : Nat) (A A' : Option Addr) (n n' c c' : Nat) (xs ys : List ByteArray) (h : Reads w B 1 A n (xs.map Value.string)) (h' : Reads w B' 1 A' n' (ys.map Value.string)) (hc : n ≤ c) (hc' : n' ≤ c') (hn : n ≤ 100000) :
    Calls Tryd.prog 14 #[.slice A n c, .slice A' n' c'] w fun e w' => e = .returned (.bool (decide (xs = ys))) ∧ Drawn0 w w' := by
  obtain ⟨hx, hR⟩ := reads_str h
  obtain ⟨hy, hR'⟩ := reads_str h'
  have HC := Lib.hid hR
  have HC' := Lib.hid hR'
  have HX := Lib.hid hx
  have HY := Lib.hid hy
  clear h h' hR hR' hx hy
  by_cases hl : n = n'
  · subst hl
    go_enter Tryd.func14, Tryd.ntmps14
    go_wp2
    go_loopg [5] n (fun k v5 w' => ∃ i : Nat, v5 = .int .i64 i ∧ i + k = n ∧ Hid (∀ j, j < i → xs.getD j ByteArray.empty = ys.getD j ByteArray.empty) ∧ Drawn0 w w')
    case atStart => exact ⟨0, rfl, by omega, Lib.hid (fun j hj => by omega), Drawn0.refl _⟩
    case round =>
      obtain ⟨i, rfl, hik, HI, ⟨m, rfl⟩⟩ := hrel
      cases gk with
      | zero =>
        have e1 : xs = ys := Ref.ext_getD xs ys (HX.out.trans HY.out.symm) (fun j hj => HI.out j (by have := HX.out; omega))
        have HE1 := Lib.hid e1
        have e2 : decide ((i : Int) < (n : Int)) = false := by simp; omega
        clear e1
        go_wp2
        go_ret
        exact ⟨(by rw [decide_eq_true HE1.out]; rfl), by repeat (first | exact Drawn0.refl _ | apply Drawn0.step)⟩
      | succ k1 =>
        have hi : i < n := by omega
        have e2 : decide ((i : Int) < (n : Int)) = true := by simp [hi]
        obtain ⟨ad, rfl, d0⟩ := HC.out i hi
        obtain ⟨ad', rfl, d1⟩ := HC'.out i hi
        by_cases hx : (xs.getD i ByteArray.empty).toList = (ys.getD i ByteArray.empty).toList
        · have HX2 := Lib.hid hx
          have x1 : ((xs.getD i ByteArray.empty).toList == (ys.getD i ByteArray.empty).toList) = true := beq_iff_eq.mpr hx
          have x2 : ((xs.getD i ByteArray.empty).toList != (ys.getD i ByteArray.empty).toList) = false := bne_eq_false_iff_eq.mpr hx
          clear hx
          generalize hx0 : xs.getD i ByteArray.empty = x at *
          generalize hy0 : ys.getD i ByteArray.empty = y at *
          have HX0 := Lib.hid hx0
          have HY0 := Lib.hid hy0
          clear hx0 hy0
          go_wp2
          repeat (go_quiet (fail); try go_wp2)
          go_roundg k1
          case measure => omega
          case rel =>
            refine ⟨i + 1, by simp, by omega, Lib.hid (fun j hj => ?_), by repeat (first | exact Drawn0.refl _ | apply Drawn0.step)⟩
            rcases Nat.lt_or_ge j i with hj' | hj'
            · exact HI.out j hj'
            · obtain rfl : j = i := by omega
              rw [HX0.out, HY0.out]
              exact (Ref.toList_inj _ _).1 HX2.out
        · have HX2 : Hid (xs ≠ ys) := Lib.hid (fun e => hx (by rw [e]))
          have x1 : ((xs.getD i ByteArray.empty).toList == (ys.getD i ByteArray.empty).toList) = false := beq_eq_false_iff_ne.mpr hx
          have x2 : ((xs.getD i ByteArray.empty).toList != (ys.getD i ByteArray.empty).toList) = true := bne_iff_ne.mpr hx
          clear hx
          generalize xs.getD i ByteArray.empty = x at *
          generalize ys.getD i ByteArray.empty = y at *
          go_wp2
          repeat (go_quiet (fail); try go_wp2)
          go_ret
          exact ⟨(by rw [decide_eq_false HX2.out]; rfl), by repeat (first | exact Drawn0.refl _ | apply Drawn0.step)⟩
  · have hl1 : ((n : Int) != (n' : Int)) = true := by simp; omega
    have hl2 : (n == n') = false := by simp [hl]
    have HX2 : Hid (xs ≠ ys) := Lib.hid (fun e => hl (by rw [← HX.out, ← HY.out, e]))
    clear hl
    go_enter Tryd.func14, Tryd.ntmps14
    go_wp2
    go_ret
    exact ⟨(by rw [decide_eq_false HX2.out]; rfl), Drawn0.refl _⟩
/-- The chain: what has been killed right behind one another is one entry in front of what was there. -/
structure CInv (be : List ByteArray) (want : ByteArray) (s : RS) : Prop where
  bound : s.bound = 1000
  none_ : want.toList.isEmpty = true → s.ents = be ∧ s.state = 0
  some_ : want.toList.isEmpty = false → s.ents = (want :: be).take 1000 ∧ s.state = 1
def wnext (want t : ByteArray) (fr : Bool) : ByteArray := match fr with | true => t ++ want | false => want ++ t
theorem empty_eq {t : ByteArray} (h : t.toList.isEmpty = true) : t = ⟨#[]⟩ := by
  have : t.toList = [] := by simpa using h
  rw [ByteArray.toList_eq] at this
  cases t
  simpa using this
theorem wnext_empty (want t : ByteArray) (fr : Bool) (h : t.toList.isEmpty = true) : wnext want t fr = want := by
  have := empty_eq h
  subst this
  cases fr
  · show want ++ ByteArray.empty = want
    simp
  · show ByteArray.empty ++ want = want
    simp
theorem wnext_new (want t : ByteArray) (fr : Bool) (h : want.toList.isEmpty = true) : wnext want t fr = t := by
  have := empty_eq h
  subst this
  cases fr
  · show ByteArray.empty ++ t = t
    simp
  · show t ++ ByteArray.empty = t
    simp
theorem isEmpty_size (t : ByteArray) : t.toList.isEmpty = decide (t.size = 0) := by
  rw [ByteArray.toList_eq, Bool.eq_iff_iff, List.isEmpty_iff_length_eq_zero, decide_eq_true_eq]
  exact Iff.rfl
theorem wnext_size (want t : ByteArray) (fr : Bool) : (wnext want t fr).size = want.size + t.size := by
  cases fr
  · show (want ++ t).size = _
    rw [ByteArray.size_append]
  · show (t ++ want).size = _
    rw [ByteArray.size_append]; omega
theorem CInv.kill {be : List ByteArray} {want : ByteArray} {s : RS} (h : CInv be want s) (t : ByteArray) (fr : Bool) : CInv be (wnext want t fr) (kill s t fr) := by
  by_cases ht : t.toList.isEmpty = true
  · rw [wnext_empty want t fr ht]
    unfold Both.kill
    rw [if_pos ht]
    exact h
  · have hne : (wnext want t fr).toList.isEmpty = false := by
      rw [isEmpty_size] at ht
      rw [isEmpty_size, wnext_size, decide_eq_false_iff_not]
      have h0 : ¬ t.size = 0 := fun e => ht (by rw [e]; rfl)
      omega
    unfold Both.kill
    rw [if_neg ht]
    by_cases hw : want.toList.isEmpty = true
    · obtain ⟨h1, h2⟩ := h.none_ hw
      rw [if_neg (by rw [h2]; simp)]
      refine ⟨h.bound, fun e => by rw [hne] at e; simp at e, fun _ => ⟨?_, rfl⟩⟩
      rw [wnext_new want t fr hw, h1, h.bound]
      rfl
    · obtain ⟨h1, h2⟩ := h.some_ (by simpa using hw)
      rw [if_pos ⟨h2, by rw [h1]; simp⟩]
      refine ⟨h.bound, fun e => by rw [hne] at e; simp at e, fun _ => ⟨?_, rfl⟩⟩
      show s.ents.set 0 _ = _
      rw [h1, List.take_succ_cons, List.take_succ_cons]
      show joined fr t want :: _ = _
      cases fr <;> rfl
theorem CInv.fit {be : List ByteArray} {want : ByteArray} {s : RS} (h : CInv be want s) (t : ByteArray) (hz : t.size + want.size ≤ 9223372036854775807) : Fit s t := fun hj => by
  by_cases hw : want.toList.isEmpty = true
  · have := (h.none_ hw).2
    omega
  · rw [(h.some_ (by simpa using hw)).1]
    exact hz
def KInv (s : RS) : Prop := s.bound = 1000 ∧ s.state = 0
theorem KInv.copy {s : RS} (h : KInv s) (t : ByteArray) : KInv (copy s t) := by
  unfold Both.copy
  split
  · exact h
  · exact ⟨h.1, rfl⟩
theorem CInv.start {s : RS} (h : KInv s) : CInv s.ents ⟨#[]⟩ s := ⟨h.1, fun _ => ⟨rfl, h.2⟩, fun e => by simp [ByteArray.toList_eq] at e⟩
theorem CInv.kept {be : List ByteArray} {want : ByteArray} {s : RS} (h : CInv be want s) (t : ByteArray) : kept s t = !t.toList.isEmpty := by
  rw [Both.kept, h.bound]
  simp
theorem kill_c {w0 w : World} {b : Nat} {v : Value} {s : RS} (t : ByteArray) (ah : Bool) (h : PB w0 w b v s) (hz : Fit s t) (r : Bool) (hr : kept s t = r) (s' : RS) (hs : kill s t ah = s') :
    Calls Tryd.prog 13 #[.pointer (some ⟨b, 0, none⟩), .string t, .bool ah] w fun e w' => e = .returned (.bool r) ∧ ∃ v', PB w0 w' b v' s' ∧ Upd (foot b v) w w' ∧ Fr w v v' := by
  subst hr; subst hs
  exact kill_u t ah h hz
theorem own_reads {w : World} {A : Option Addr} {n c : Nat} {xs : List ByteArray} (h : Own w (.slice A n c) xs) : Reads w w.heap.size 1 A n (xs.map Value.string) := by
  obtain ⟨A', c', he, _⟩ := h.form
  injection he with h1 h2 h3
  subst h2
  exact Reads.of_own h
theorem all_head {w0 w : World} {b : Nat} {v : Value} {s : RS} {x : ByteArray} {rest : List ByteArray} {n : Nat} (h : PB w0 w b v s) (hs : s.ents = x :: rest) (hn : rest.length = n) :
    Calls Tryd.prog 12 #[.pointer (some ⟨b, 0, none⟩)] w fun e w' => ∃ g c, e = .returned (.slice (some ⟨g, 0, none⟩) (n + 1) c) ∧ n + 1 ≤ c ∧ w'.cell? ⟨g, 0, none⟩ = some (.string x) ∧
      Reads w' w'.heap.size 1 (if c = 1 then some ⟨g, 0, none⟩ else some ⟨g, 1, none⟩) n (rest.map Value.string) ∧ PB w0 w' b v s ∧ Below w.heap.size w w' := by
  subst hn
  refine (all_b h).mono ?_
  rintro e w' ⟨l, rfl, ho, hp, hb⟩
  have ho' := ho.own
  rw [hs] at ho'
  obtain ⟨g, c, rfl, hc, hcell, _⟩ := ho'.some_ (by simp)
  refine ⟨g, c, rfl, hc, hcell 0 (by simp), ?_, hp, hb⟩
  have := (Reads.of_own ho').cut (k := 1) (cap := c) (by simp) hc
  simpa [Addr.add] using this
theorem CInv.ents {be : List ByteArray} {want : ByteArray} {s : RS} (h : CInv be want s) (hw : want.toList.isEmpty = false) : s.ents = want :: be.take 999 := by
  rw [(h.some_ hw).1, List.take_succ_cons]

set_option maxHeartbeats 6400000 in
set_option maxRecDepth 100000 in
theorem chains (W : World) (A : Option Addr) (l c : Nat) (xs : List ByteArray) (hr : Reads W W.heap.size 1 A l (xs.map Value.string)) (hlc : l ≤ c)
    (A1 : Option Addr) (l1 c1 : Nat) (zs : List ByteArray) (hr1 : Reads W W.heap.size 1 A1 l1 (zs.map Value.string)) (hlc1 : l1 ≤ c1) (hl1 : l1 ≤ 1048576) (hm : ∀ i, i < l1 → (zs.getD i E).size ≤ 1048576)
    (A2 : Option Addr) (l2 c2 : Nat) (ys : List Bool) (hr2 : Reads W W.heap.size 1 A2 l2 (ys.map Value.bool)) (hlc2 : l2 ≤ c2) (hl : l ≤ 1048576) :
    Calls Tryd.prog 3 #[.slice A l c, .slice A1 l1 c1, .slice A2 l2 c2] W fun e W' => e = .returned (.bool true) ∧ Below W.heap.size W W' := by
  have HR := Lib.hid hr
  have HR1 := Lib.hid hr1
  have HR2 := Lib.hid hr2
  have HM := Lib.hid hm
  clear hr hr1 hr2 hm
  go_enter Tryd.func3, Tryd.ntmps3
  go_wp2_with (first
    | (go_at_call 9; refine (kills W).mono ?_; rintro e w1 ⟨rfl, hb⟩; have HW := Lib.hid hb; clear hb)
    | (go_at_call 10; refine (new_b W _ 1099511627776 HW.out).mono ?_; rintro e w2 ⟨b, rfl, hp0⟩; have HP0 := Lib.hid hp0; clear hp0 HW))
  have HK0 : Hid (KInv (start 1099511627776)) := Lib.hid ⟨by decide, rfl⟩
  go_loopg [21] l (fun k v21 w' => ∃ i : Nat, v21 = .int .i64 i ∧ i + k = l ∧ ∃ v s, Hid (PB W w' b v s) ∧ Hid (KInv s))
  case atStart => exact ⟨0, rfl, by omega, _, _, HP0, HK0⟩
  case round =>
    clear HP0 HK0
    obtain ⟨i, rfl, hik, v, s, HP, HK⟩ := hrel
    rename World => wz
    cases gk with
    | succ k1 =>
      have hi : i < l := by omega
      have e1 : decide ((i : Int) < (l : Int)) = true := by simp [hi]
      obtain ⟨ad, rfl, hcell, hi2⟩ := reads_at HR.out HP.out.below hi
      generalize xs.getD i E = t at *
      go_wp2_with (first
        | (go_at_call 11; refine (copy_b t HP.out).mono ?_; rintro e w3 ⟨rfl, v1, hp⟩; have HP1 := Lib.hid hp; clear hp))
      go_roundg k1
      case measure => omega
      case rel => exact ⟨i + 1, by simp, by omega, _, _, HP1, Lib.hid (HK.out.copy t)⟩
    | zero =>
      have e1 : decide ((i : Int) < (l : Int)) = false := by simp; omega
      have HC0' : Hid (CInv s.ents ⟨#[]⟩ s) := Lib.hid (CInv.start HK.out)
      have hbl : s.ents.length ≤ 1000 := by have := HP.out.inv.len; have := HP.out.inv.b1; omega
      generalize hbe : s.ents = be at *
      have HBE := Lib.hid hbe
      clear hbe
      go_wp2_with (first
        | (go_at_call 12; refine (all_b HP.out).mono ?_; rintro e w3 ⟨l0, rfl, ho, hp, hb⟩; rw [HBE.out] at ho; obtain ⟨B0, d0, rfl, hl0⟩ := ho.own.form; have HO0 := Lib.hid ho; have HP1 := Lib.hid hp; clear ho hp hb))
      go_loopg [33, 11] l1 (fun k v33 v11 w' => ∃ i : Nat, v33 = .int .i64 i ∧ i + k = l1 ∧ ∃ want, v11 = .string want ∧ want.size ≤ i * 1048576 ∧ ∃ v s, Hid (PB W w' b v s) ∧ Hid (CInv be want s) ∧ Hid (Out W w' b v (.slice B0 be.length d0) be))
      case atStart => exact ⟨0, rfl, by omega, _, rfl, Nat.zero_le _, _, _, HP1, HC0', HO0⟩
      case round =>
        clear HP1 HC0' HO0 HBE HP HK
        clear s
        obtain ⟨j, rfl, hjk, want, rfl, hwz, v, s, HP, HC, HO⟩ := hrel
        cases gk with
        | succ k1 =>
          have hj : j < l1 := by omega
          have f1 : decide ((j : Int) < (l1 : Int)) = true := by simp [hj]
          obtain ⟨ad, rfl, hcell, hj2⟩ := reads_at HR1.out HP.out.below hj
          have HT := Lib.hid (HM.out j hj)
          have htz : (zs.getD j E).size ≤ 1048576 := HT.out
          generalize zs.getD j E = t at *
          have z1 : t.size + want.size ≤ 9223372036854775807 := by omega
          have z2 : want.size + t.size ≤ 9223372036854775807 := by omega
          have hcb : ∃ cb : Bool, (cb = true ∧ (j < l2 ∧ ∃ ad2, A2 = some ad2 ∧ wr.cell? (ad2.add j) = some (.bool true))) ∨ (cb = false ∧ ((j < l2 ∧ ∃ ad2, A2 = some ad2 ∧ wr.cell? (ad2.add j) = some (.bool false)) ∨ ¬ j < l2)) := by
            by_cases h2 : j < l2
            · obtain ⟨ad2, e2, h3⟩ := bools_at HR2.out HP.out.below h2
              cases hy : ys.getD j false
              · exact ⟨false, .inr ⟨rfl, .inl ⟨h2, ad2, e2, by rw [h3, hy]⟩⟩⟩
              · exact ⟨true, .inl ⟨rfl, h2, ad2, e2, by rw [h3, hy]⟩⟩
            · exact ⟨false, .inr ⟨rfl, .inr h2⟩⟩
          obtain ⟨cb, hcb⟩ := hcb
          have HN := Lib.hid (HC.out.kill t cb)
          have HF : Hid (Fit s t) := Lib.hid (HC.out.fit t z1)
          have hnz : Hid ((wnext want t cb).size ≤ (j + 1) * 1048576) := Lib.hid (by rw [wnext_size]; omega)
          have hkt := HC.out.kept t
          have hte : t.toList.isEmpty = true ∨ t.toList.isEmpty = false := by cases t.toList.isEmpty <;> simp
          rcases hte with hte | hte <;> rw [hte] at hkt <;> have HKT := Lib.hid hkt <;> clear hkt <;> rcases hcb with ⟨rfl, h2, ad2, rfl, h3⟩ | ⟨rfl, ⟨h2, ad2, rfl, h3⟩ | h2⟩
          all_goals
            go_wp2_with (first
              | (go_at_call 13; refine (kill_c t _ HP.out HF.out _ HKT.out _ rfl).mono ?_; rintro e w4 ⟨rfl, v1, hp, hu, hf⟩; have HP1 := Lib.hid hp; have HO1 := Lib.hid (HO.out.step hu hf); clear hp hu hf))
            go_roundg k1
            case measure => omega
            case rel => exact ⟨j + 1, by simp, by omega, _, rfl, hnz.out, _, _, HP1, HN, HO1⟩
        | zero =>
          have f1 : decide ((j : Int) < (l1 : Int)) = false := by simp; omega
          clear hwz
          rcases (show want.toList.isEmpty = true ∨ want.toList.isEmpty = false by cases want.toList.isEmpty <;> simp) with hw | hw
          · have HE := Lib.hid (HC.out.none_ hw).1
            go_wp2_with (first
              | (go_at_call 12; refine (all_b HP.out).mono ?_; rintro e w5 ⟨l5, rfl, ho, hp, hb⟩; rw [HE.out] at ho; obtain ⟨B5, d5, rfl, hl5⟩ := ho.own.form; have HO5 := Lib.hid ho; have HP5 := Lib.hid hp; have HO6 := Lib.hid (HO.out.later hb); clear ho hp hb)
              | (go_at_call 14; refine (same_r _ _ _ _ _ _ _ _ _ be be (Reads.of_own HO5.out.own) (Reads.of_own HO6.out.own) hl5 hl0 (by omega)).mono ?_; rintro e w6 ⟨rfl, hd⟩; have HP6 := Lib.hid (HP5.out.later hd.below); clear hd))
            go_ret
            exact ⟨by simp, HP6.out.below⟩
          · have HE := Lib.hid (HC.out.ents hw)
            have HS := Lib.hid (HC.out.some_ hw).2
            obtain ⟨bt, hbt⟩ : ∃ bt, bt = be.take 999 := ⟨_, rfl⟩
            have hbtl : bt.length = min 999 be.length := by rw [hbt, List.length_take]
            have hbt2 : be.length ≤ 999 → bt = be := fun h => by rw [hbt, List.take_of_length_le h]
            rw [← hbt] at HE
            have HT := Lib.hid hbt
            have HT2 := Lib.hid hbt2
            clear hbt hbt2
            generalize hn0 : be.length = n0 at *
            have HN0 := Lib.hid hn0
            clear hn0
            rcases Classical.em (n0 = 1000) with rfl | hne
            · have hbl2 : bt.length = 999 := by omega
              clear hbtl
              go_wp2_with (first
                | (go_at_call 12; refine (all_head HP.out HE.out hbl2).mono ?_; rintro e w5 ⟨g5, c5, rfl, hl5, hc5, hr5, hp, hb⟩; have HP5 := Lib.hid hp; have HO6 := Lib.hid (HO.out.later hb); have hc1 : ¬ c5 = 1 := (by omega); rw [if_neg hc1] at hr5; have HR5 := Lib.hid hr5; clear hp hb hr5)
                | (go_at_call 14; refine (same_r _ _ _ _ _ _ _ _ _ bt bt HR5.out (own_reads (by rw [HT.out]; exact HO6.out.own.take rfl 999 (by have := HN0.out; omega))) (by omega) (by omega) (by omega)).mono ?_; rintro e w6 ⟨rfl, hd⟩; have HP6 := Lib.hid (HP5.out.later hd.below); clear hd)
                | (go_at_call 15; refine (killing_b HP6.out true (by rw [HS.out]; rfl)).mono ?_; rintro e w7 ⟨rfl, rfl⟩))
              go_ret
              exact ⟨by simp, HP6.out.below⟩
            · have hbl2 : bt.length = n0 := by omega
              have e3 : ((n0 : Int) == 1000) = false := by rw [beq_eq_false_iff_ne]; omega
              clear hbtl
              go_wp2_with (first
                | (go_at_call 12; refine (all_head HP.out HE.out hbl2).mono ?_; rintro e w5 ⟨g5, c5, rfl, hl5, hc5, hr5, hp, hb⟩; have HP5 := Lib.hid hp; have HO6 := Lib.hid (HO.out.later hb); have HR5 := Lib.hid hr5; clear hp hb hr5)
                | (go_at_call 14; refine (same_r _ _ _ _ _ _ _ _ _ bt bt (by have := HR5.out; first | exact this | (rw [if_neg (by assumption)] at this; exact this)) (own_reads (by rw [HT2.out (by have := HN0.out; omega)]; exact HO6.out.own)) (by omega) (by omega) (by omega)).mono ?_; rintro e w6 ⟨rfl, hd⟩; have HP6 := Lib.hid (HP5.out.later hd.below); clear hd)
                | (go_at_call 15; refine (killing_b HP6.out true (by rw [HS.out]; rfl)).mono ?_; rintro e w7 ⟨rfl, rfl⟩))
              all_goals
                go_ret
                exact ⟨by simp, HP6.out.below⟩
theorem chains_row {H : Type} (W : World) (A : Option Addr) (l c : Nat) (xs : List ByteArray) (hr : Reads W W.heap.size 1 A l (xs.map Value.string)) (hlc : l ≤ c) (hm0 : ∀ u ∈ xs, u.size ≤ maxLen) (y0 : l * 16 ≤ reachBytes) (zl0 : xs.length = l) {d0 : DataW H} (zd0 : (l = 0 ∧ d0 = .nil) ∨ ∃ sp, d0 = .slice (xs.map Opens.strLit) sp) (hb0 : Rows.uptoBulk d0 ≤ 1048576)
    (A1 : Option Addr) (l1 c1 : Nat) (zs : List ByteArray) (hr1 : Reads W W.heap.size 1 A1 l1 (zs.map Value.string)) (hlc1 : l1 ≤ c1) (hm1 : ∀ u ∈ zs, u.size ≤ maxLen) (y1 : l1 * 16 ≤ reachBytes) (zl1 : zs.length = l1) {d1 : DataW H} (zd1 : (l1 = 0 ∧ d1 = .nil) ∨ ∃ sp, d1 = .slice (zs.map Opens.strLit) sp) (hb1 : Rows.uptoBulk d1 ≤ 1048576)
    (A2 : Option Addr) (l2 c2 : Nat) (ys : List Bool) (hr2 : Reads W W.heap.size 1 A2 l2 (ys.map Value.bool)) (hlc2 : l2 ≤ c2) :
    Calls Tryd.prog 3 #[.slice A l c, .slice A1 l1 c1, .slice A2 l2 c2] W fun e W' => e = .returned (.bool true) ∧ Below W.heap.size W W' := by
  have hs0 := Bulk.texts zl0 zd0 hb0
  have hs1 := Bulk.texts zl1 zd1 hb1
  have h0 := sum_len (fun u : ByteArray => u.size + 1) (fun _ => Nat.le_add_left _ _) xs
  have h1 := sum_len (fun u : ByteArray => u.size + 1) (fun _ => Nat.le_add_left _ _) zs
  refine chains W A l c xs hr hlc A1 l1 c1 zs hr1 hlc1 (by omega) (fun i hi => ?_) A2 l2 c2 ys hr2 hlc2 (by omega)
  have := sum_get (fun u : ByteArray => u.size + 1) E zs i (by omega)
  omega
end Both
end Go.Proofs.YtlflohbpdapiiaaDoor
