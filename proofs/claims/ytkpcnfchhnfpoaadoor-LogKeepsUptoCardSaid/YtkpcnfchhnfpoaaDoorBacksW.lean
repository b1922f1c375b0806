/- LogBacks, walked. -/
import Derived.Test.YtkpcnfchhnfpoaaDoorBacks
import Derived.Test.YtkpcnfchhnfpoaaDoorArgs
set_option linter.unusedVariables false
namespace Go.Proofs.YtkpcnfchhnfpoaaDoor
open Go.RowKit Go.Proofs.YtkpcnfchhnfpoaaDoorW.PrintWords Go.Proofs.YtkpcnfchhnfpoaaDoor.Sep Log LogI
namespace Log
theorem ReadsG.later {w w' : World} {A : Option Addr} {n : Nat} {gs : List GV} (h : ReadsG w w.heap.size A n gs) (hb : Below w.heap.size w w') : ReadsG w' w'.heap.size A n gs :=
  ⟨h.len, (h.reads.below hb).more hb.size, fun g hg => ⟨(h.each g hg).len, ((h.each g hg).reads.below hb).more hb.size⟩⟩
theorem OwnS.at1 {w : World} {e : TypeId} {g off n c : Nat} {xs : List Value} (h : OwnS w e 1 (.slice (some ⟨g, off, none⟩) n c) n xs) : ∀ j u, xs[j]? = some u → w.cell? ⟨g, off + j, none⟩ = some u := by
  intro j u hu
  have hn : 0 < n := by
    have hj := (List.getElem?_eq_some_iff.1 hu).1
    have := h.1
    omega
  obtain ⟨g', off', c', hv, _, hc⟩ := h.some_ hn
  injection hv with e1 e2 e3
  injection e1 with e1
  injection e1 with e1 e4
  subst e1; subst e4
  exact hc j u hu
theorem str_get (all : List ByteArray) (j : Nat) (hj : j < all.length) : (all.map Value.string)[j]? = some (.string (all.getD j E)) := by simp [List.getD, hj]
theorem apn (w : World) (v : Value) (A : Option Addr) (n c : Nat) (hv : v = .slice A n c) (t u : ByteArray) (ds : List Delta) (ho : OwnD w v ds) (h : apply t ds = (u, true)) (T : Nat) (hT : T ≤ 1000000) (hl : ds.length ≤ T) (hd : ∀ d ∈ ds, d.2.1.size ≤ T ∧ d.2.2.size ≤ T) (ht : t.size ≤ T) :
    Calls Tryd.prog 11 #[.string t, .slice A n c] w fun e w' => e = .returned (.tuple #[.string u, .bool true]) ∧ Below w.heap.size w w' := by
  subst hv
  have hn : n = ds.length := by
    obtain ⟨A', c', e, _⟩ := ho.len
    injection e with e1 e2 e3
  have h1 := insum_le ds T (fun d hd' => (hd d hd').2)
  have h3 : ds.length * T ≤ T * T := Nat.mul_le_mul_right _ hl
  have h4 : T * T ≤ 1000000 * 1000000 := Nat.mul_le_mul hT hT
  have h2 := apply_p w t A n c ds (OwnD.reads ho hn) (by omega) (by omega) (fun d hd' => by have := (hd d hd').1; omega)
  rw [h] at h2
  exact h2
theorem long_l (w : World) (t : ByteArray) (A : Option Addr) (l c : Nat) (gs : List GV) (h : ReadsG w w.heap.size A l gs) (hz : tot t gs ≤ 3000000) (b : Bool) (hb : decide (65536 < tot t gs) = b) :
    Calls Tryd.prog 19 #[.string t, .slice A l c] w fun e w' => e = .returned (.bool b) ∧ w = w' := long_c w t A l c gs h (by omega) b hb
theorem lsum_els (gs : List GV) : lsum (els gs) = gsum gs := by unfold lsum els gsum; rw [List.map_map]; rfl
theorem getD_mem {α : Type} {l : List α} {j : Nat} {d : α} (h : j < l.length) : l.getD j d ∈ l := by simp [List.getD, h]
set_option maxHeartbeats 25600000
set_option maxRecDepth 100000
theorem backs_w (W : World) (n : Int) (t : ByteArray) (A : Option Addr) (l c : Nat) (gs : List GV) (h : ReadsG W W.heap.size A l gs) (hz : tot t gs ≤ 3000000) :
    Calls Tryd.prog 5 #[.int .i64 n, .string t, .slice A l c] W fun e w' => e = .returned (.bool true) ∧ Below W.heap.size W w' := by
  cases hlg : decide (65536 < tot t gs) with
  | true =>
    have HR := Lib.hid h
    have HLG := Lib.hid hlg
    have HZ := Lib.hid hz
    clear h hlg hz
    go_enter Tryd.func5, Tryd.ntmps5
    go_wp2_with (first
      | (go_at_call 10; refine (fixed _).mono ?_; rintro e w1 ⟨rfl, hb⟩; have HW1 := Lib.hid hb; have HR1 := Lib.hid (HR.out.later hb); clear hb)
      | (go_at_call 19; refine (long_l _ _ _ _ _ gs HR1.out HZ.out true HLG.out).mono ?_; rintro e w2 ⟨rfl, rfl⟩))
    go_ret
    exact ⟨rfl, HW1.out⟩
  | false =>
    have hT : tot t gs ≤ 65536 := by simpa using hlg
    obtain ⟨b, hb⟩ : ∃ b, b = (min (max n 0) 1000).toNat := ⟨_, rfl⟩
    obtain ⟨all, hall⟩ : ∃ all, all = (seq t (els gs)).1 := ⟨_, rfl⟩
    obtain ⟨G, hG⟩ : ∃ G, G = (seq t (els gs)).2 := ⟨_, rfl⟩
    have hst := seq_hst t (els gs)
    have hsm := seq_sm t (els gs) 65536 (by rw [lsum_els]; unfold tot at hT; omega)
    rw [← hall, ← hG] at hst
    rw [← hG] at hsm
    have hlen := hst.len
    obtain ⟨m, hm⟩ : ∃ m, m = G.length := ⟨_, rfl⟩
    rw [← hm] at hlen
    obtain ⟨kp, hkp⟩ : ∃ kp, kp = min m b := ⟨_, rfl⟩
    have hk1 : kp ≤ m := by omega
    have hb1 : b ≤ 1000 := by omega
    have hmb : m - kp = m - b := by omega
    have hsa := seq_all t (els gs) 65536 (by rw [lsum_els]; unfold tot at hT; omega)
    have hml : m ≤ 65536 := by
      have h1 := seq_len t (els gs)
      have h2 : (els gs).length = gs.length := List.length_map ..
      rw [← hG, ← hm] at h1
      unfold tot at hT
      omega
    rw [← hall] at hsa
    have htxt : Hid (∀ j, j ≤ m → (all.getD j E).size ≤ 65536) := Lib.hid (fun j hj => hsa _ (getD_mem (by omega)))
    clear hsa
    have HB0 := Lib.hid hb.symm
    have HALL := Lib.hid hall.symm
    have HG := Lib.hid hG.symm
    have HM := Lib.hid hm.symm
    have HKP := Lib.hid hkp
    have HST := Lib.hid hst
    have HSM := Lib.hid hsm
    have HR := Lib.hid h
    have HLG := Lib.hid hlg
    have HZ := Lib.hid hz
    have HT := Lib.hid hT
    obtain ⟨Tx, hTx⟩ : ∃ Tx : Nat → ByteArray, Tx = fun j => all.getD j E := ⟨_, rfl⟩
    have hTx' : ∀ j, Tx j = all.getD j E := fun j => by rw [hTx]
    have HCEL : Hid (∀ (w' : World) (g off c : Nat), OwnS w' 9 1 (.slice (some ⟨g, off, none⟩) (m + 1) c) (m + 1) (all.map Value.string) → ∀ j, j ≤ m → w'.cell? ⟨g, off + j, none⟩ = some (.string (Tx j))) := Lib.hid (fun w' g off c ho j hj => by rw [hTx']; exact OwnS.at1 ho j _ (str_get all j (by omega)))
    have HAP : Hid (∀ j, j < m → apply (Tx j) (G.getD j gN).ds = (Tx (j + 1), true)) := Lib.hid (fun j hj => by rw [hTx', hTx']; exact hst.ok j (by omega))
    have HTS : Hid (∀ j, j ≤ m → (Tx j).size ≤ 65536) := Lib.hid (fun j hj => by rw [hTx']; exact htxt.out j hj)
    have HGS : Hid (∀ j, j < m → (G.getD j gN).ds.length ≤ 65536 ∧ ∀ d ∈ (G.getD j gN).ds, d.2.1.size ≤ 65536 ∧ d.2.2.size ≤ 65536) := Lib.hid (fun j hj => hsm _ (getD_mem (by omega)))
    have z0 : min (m : Int) (b : Int) = (kp : Int) := by omega
    clear h hlg hz hb hall hG hst hsm hm hkp hT hTx hTx' htxt
    have z1 : IntKind.i64.wrap ((m : Int) + 1 - 1) = (m : Int) := by rw [IntKind.wrap_i64]; omega
    go_enter Tryd.func5, Tryd.ntmps5
    go_wp2_with (first
      | (go_at_call 10; refine (fixed _).mono ?_; rintro e w1 ⟨rfl, hb⟩; have HW1 := Lib.hid hb; have HR1 := Lib.hid (HR.out.later hb); clear hb)
      | (go_at_call 19; refine (long_l _ _ _ _ _ gs HR1.out HZ.out false HLG.out).mono ?_; rintro e w2 ⟨rfl, rfl⟩)
      | (go_at_call 20; refine (new_b (w0 := W) n HW1.out (shut b []) (by rw [HB0.out]; rfl) 1000 (by omega)).mono ?_; rintro e w3 ⟨p, s3, rfl, hb3, -, -⟩; have HB3 := Lib.hid hb3; clear hb3)
      | (go_at_call 21; refine (texts_c W w3 p s3 b 1000 HB3.out t A l c gs HR.out (by have := HT.out; omega) (by omega)).mono ?_; rintro e w4 ⟨v4, rfl, ho4, hf4, M4, s4, hb4, hu4, hr4⟩; rw [HALL.out] at ho4; rw [HG.out, ← st_full] at hb4; rw [hlen] at ho4; obtain ⟨ag, aoff, ac, hv4, hac, -⟩ := ho4.some_ (by omega); subst hv4; have HO4 := Lib.hid ho4; have hcell := HCEL.out _ _ _ _ ho4 m (Nat.le_refl _); have HF4 := Lib.hid hf4; have HB4 := Lib.hid hb4; clear ho4 hf4 hb4 hu4 hr4)
      | (go_at_call 22; refine (bound_b HB4.out b rfl).mono ?_; rintro e w7 ⟨rfl, rfl⟩)
      | (go_at_call 23; refine (undos_b HB4.out kp (by rw [st_undos, HM.out, ← HKP.out])).mono ?_; rintro e w7 ⟨rfl, rfl⟩)
      | (go_at_call 24; refine (redos_b HB4.out 0 (by unfold st; rw [List.drop_length]; rfl)).mono ?_; rintro e w7 ⟨rfl, rfl⟩))
    go_loopg [12, 1] kp (fun k v12 v1 w' => ∃ i : Nat, v12 = .int .i64 i ∧ i + k = kp ∧ ∃ j : Nat, i + j = m ∧ v1 = .string (Tx j) ∧ ∃ s' M, Hid (LB W w' p s' (st b G j) M) ∧ Hid (OwnS w' 9 1 (.slice (some ⟨ag, aoff, none⟩) (m + 1) ac) (m + 1) (all.map Value.string)))
    case atStart => exact ⟨0, rfl, by omega, m, by omega, rfl, s4, M4, Lib.hid (by have := HB4.out; rw [HM.out] at this; exact this), HO4⟩
    case round =>
      clear hcell
      obtain ⟨i, rfl, hik, j, hij, rfl, s', M, HB, HO⟩ := hrel
      cases gk with
      | zero =>
        have e1 : decide (i < kp) = false := by simp; omega
        have hjb : j = m - b := by omega
        have HUN : Hid ((st b G j).undoL = [] ∧ (st b G j).undoA LogI.zA = 0 ∧ (st b G j).undoE = 3 ∧ (st b G j).undo_ = st b G j) := Lib.hid (undoN (by have h := st_undoN b G; rw [HM.out] at h; rw [hjb]; exact h))
        have HRD : Hid ((st b G j).redo.length = kp) := Lib.hid (by have h := st_redos b G; rw [HM.out, ← HKP.out] at h; rw [hjb]; exact h)
        have z1 : IntKind.i64.wrap ((m : Int) - (kp : Int)) = (j : Int) := by rw [IntKind.wrap_i64]; omega
        have z2 : IntKind.i64.wrap ((j : Int) + 1) = (j : Int) + 1 := by rw [IntKind.wrap_i64]; omega
        have HJ0 := Lib.hid hjb
        clear hjb
        go_wp2_with (first
          | (go_at_call 25; refine (undo_b HB.out [] HUN.out.1 0 HUN.out.2.1 3 HUN.out.2.2.1 _ HUN.out.2.2.2).mono ?_; rintro e w5 ⟨v5, rfl, s5, hb5, hu5, -, ho5, -⟩; obtain ⟨A5, c5, hv5, -⟩ := ho5.len; have hv5 : v5 = .slice A5 0 c5 := hv5; subst hv5; have HB5 := Lib.hid hb5; have HO5 := Lib.hid (HO.out.upd hu5 (nf9 HB.out.at_ HO.out)); clear hb5 hu5 ho5)
          | (go_at_call 24; refine (redos_b HB5.out kp HRD.out).mono ?_; rintro e w7 ⟨rfl, rfl⟩))
        go_loopg [21, 1] kp (fun k v21 v1 w' => ∃ i2 : Nat, v21 = .int .i64 i2 ∧ i2 + k = kp ∧ v1 = .string (Tx (j + i2)) ∧ ∃ s' M, Hid (LB W w' p s' (st b G (j + i2)) M) ∧ Hid (OwnS w' 9 1 (.slice (some ⟨ag, aoff, none⟩) (m + 1) ac) (m + 1) (all.map Value.string)))
        case atStart => exact ⟨0, rfl, by omega, rfl, s5, M, HB5, HO5⟩
        case round =>
          obtain ⟨i2, rfl, hik2, rfl, s6, M6, HB6, HO6⟩ := hrel
          cases gk with
          | zero =>
            have e2 : decide (i2 < kp) = false := by simp; omega
            have hjm : j + i2 = m := by omega
            have HJM := Lib.hid hjm
            have HRN : Hid ((st b G m).redoL = [] ∧ (st b G m).redoA LogI.zA = 0 ∧ (st b G m).redoE = 4 ∧ (st b G m).redo_ = st b G m) := Lib.hid (redoN (by have h := st_redoN b G; rw [HM.out] at h; exact h))
            have HUD : Hid ((st b G m).undo.length = kp) := Lib.hid (by have h := st_undos b G; rw [HM.out, ← HKP.out] at h; exact h)
            rw [hjm] at HB6
            rw [hjm]
            clear hjm
            have hcm := HCEL.out _ _ _ _ HO6.out m (Nat.le_refl _)
            go_wp2_with (first
              | (go_at_call 26; refine (redo_b HB6.out [] HRN.out.1 0 HRN.out.2.1 4 HRN.out.2.2.1 _ HRN.out.2.2.2).mono ?_; rintro e w8 ⟨v8, rfl, s8, hb8, hu8, -, ho8, -⟩; obtain ⟨A8, c8, hv8, -⟩ := ho8.len; have hv8 : v8 = .slice A8 0 c8 := hv8; subst hv8; have HB8 := Lib.hid hb8; have hcm2 := HCEL.out _ _ _ _ (HO6.out.upd hu8 (nf9 HB6.out.at_ HO6.out)) m (Nat.le_refl _); clear hb8 hu8 ho8)
              | (go_at_call 23; refine (undos_b HB8.out kp HUD.out).mono ?_; rintro e w7 ⟨rfl, rfl⟩))
            go_ret
            exact ⟨by rfl, HB8.out.below⟩
          | succ k2 =>
            have e2 : decide (i2 < kp) = true := by simp; omega
            have hjlt : j + i2 < m := by omega
            obtain ⟨q, hq⟩ : ∃ q, q = j + i2 := ⟨_, rfl⟩
            rw [← hq] at HB6 hjlt ⊢
            have HQ := Lib.hid hq
            have z3 : IntKind.i64.wrap ((j : Int) + 1 + (i2 : Int)) = ((q + 1 : Nat) : Int) := by rw [IntKind.wrap_i64]; omega
            have hsg : Hid ((st b G q).redoL = (G.getD q gN).ds ∧ (st b G q).redoA LogI.zA = ((q + 1 : Nat) : Int) ∧ (st b G q).redoE = 0) := Lib.hid (by
              obtain ⟨h1, h2, h3⟩ := redoS (st_redoG b G q (by rw [HM.out]; exact hjlt))
              exact ⟨h1, h2.trans (HST.out.be q (by rw [HM.out]; exact hjlt)), h3⟩)
            have HNX : Hid ((st b G q).redo_ = st b G (q + 1)) := Lib.hid (st_redo b G q (by rw [HM.out]; exact hjlt) (by have := HJ0.out; rw [HM.out]; omega))
            have l1 : decide (m + 1 ≤ q + 1) = false := by simp; omega
            have l2 : decide ((m : Int) + 1 ≤ (q : Int) + 1) = false := by simp; omega
            have l3 : decide (m ≤ q) = false := by simp; omega
            have l4 : decide ((q : Int) + 1 < 0) = false := by simp; omega
            clear hq
            go_wp2_with (first
              | (go_at_call 26; refine (redo_b HB6.out _ hsg.out.1 _ hsg.out.2.1 0 hsg.out.2.2 _ HNX.out).mono ?_; rintro e w8 ⟨v8, rfl, s8, hb8, hu8, -, ho8, -⟩; obtain ⟨A8, c8, hv8, -⟩ := ho8.len; have HV8 := Lib.hid hv8; have HA8 := Lib.hid ho8; have HB8 := Lib.hid hb8; have HO8 := Lib.hid (HO6.out.upd hu8 (nf9 HB6.out.at_ HO6.out)); subst hv8; clear hb8 hu8 ho8)
              | (go_at_call 11; refine (apn w8 _ _ _ _ rfl (Tx q) (Tx (q + 1)) _ HA8.out (HAP.out q hjlt) 65536 (by omega) (HGS.out q hjlt).1 (HGS.out q hjlt).2 (HTS.out q (by omega))).mono ?_; rintro e w9 ⟨rfl, hb9⟩; have HB9 := Lib.hid (HB8.out.later hb9); have HO9 := Lib.hid (HO8.out.upd (Upd.below hb9 No) (fun _ _ h => h)); have hc9 := HCEL.out _ _ _ _ HO9.out (q + 1) (by omega); clear hb9))
            go_roundg k2
            case measure => omega
            case rel => exact ⟨i2 + 1, by simp, by omega, (by have := HQ.out; rw [show j + (i2 + 1) = q + 1 by omega]), s8, M6, (by have := HQ.out; rw [show j + (i2 + 1) = q + 1 by omega]; exact HB9), HO9⟩
      | succ k1 =>
        have e1 : decide (i < kp) = true := by simp; omega
        obtain ⟨q, rfl⟩ : ∃ q, j = q + 1 := ⟨j - 1, by omega⟩
        have hjlt : q < m := by omega
        obtain ⟨m1, hm1⟩ : ∃ m1, m1 = m - 1 := ⟨_, rfl⟩
        have z1 : IntKind.i64.wrap ((m : Int) - 1) = (m1 : Int) := by rw [IntKind.wrap_i64]; omega
        have z2 : IntKind.i64.wrap ((m1 : Int) - (i : Int)) = (q : Int) := by rw [IntKind.wrap_i64]; omega
        have hsg : Hid ((st b G (q + 1)).undoL = back (G.getD q gN).ds ∧ (st b G (q + 1)).undoA LogI.zA = (q : Int) ∧ (st b G (q + 1)).undoE = 0) := Lib.hid (by
          obtain ⟨h1, h2, h3⟩ := undoS (st_undoG b G q (by rw [HM.out]; exact hjlt) (by rw [HM.out]; omega))
          exact ⟨h1, h2.trans (HST.out.ah q (by rw [HM.out]; exact hjlt)), h3⟩)
        have HNX : Hid ((st b G (q + 1)).undo_ = st b G q) := Lib.hid (st_undo b G q (by rw [HM.out]; exact hjlt) (by rw [HM.out]; omega))
        have l1 : decide (m + 1 ≤ q) = false := by simp; omega
        have l2 : decide ((m : Int) + 1 ≤ (q : Int)) = false := by simp; omega
        clear hm1
        go_wp2_with (first
          | (go_at_call 25; refine (undo_b HB.out _ hsg.out.1 _ hsg.out.2.1 0 hsg.out.2.2 _ HNX.out).mono ?_; rintro e w8 ⟨v8, rfl, s8, hb8, hu8, -, ho8, -⟩; obtain ⟨A8, c8, hv8, -⟩ := ho8.len; have HA8 := Lib.hid ho8; have HB8 := Lib.hid hb8; have HO8 := Lib.hid (HO.out.upd hu8 (nf9 HB.out.at_ HO.out)); have HV8 := Lib.hid hv8; subst hv8; clear hb8 hu8 ho8)
          | (go_at_call 11; refine (apn w8 _ _ _ _ rfl (Tx (q + 1)) (Tx q) _ HA8.out (apply_back _ (HAP.out q hjlt)) 65536 (by omega) (by rw [back_len]; exact (HGS.out q hjlt).1) (fun d hd => by have := (HGS.out q hjlt).2 _ (back_mem hd); exact ⟨this.2, this.1⟩) (HTS.out (q + 1) (by omega))).mono ?_; rintro e w9 ⟨rfl, hb9⟩; have HB9 := Lib.hid (HB8.out.later hb9); have HO9 := Lib.hid (HO8.out.upd (Upd.below hb9 No) (fun _ _ h => h)); have hc9 := HCEL.out _ _ _ _ HO9.out q (by omega); clear hb9))
        go_roundg k1
        case measure => omega
        case rel => exact ⟨i + 1, by simp, by omega, q, by omega, rfl, s8, M, HB9, HO9⟩
end Log
end Go.Proofs.YtkpcnfchhnfpoaaDoor
