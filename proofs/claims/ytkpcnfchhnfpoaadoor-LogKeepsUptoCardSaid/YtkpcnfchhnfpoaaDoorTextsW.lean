/- texts, walked. -/
import Derived.Test.YtkpcnfchhnfpoaaDoorTexts
set_option linter.unusedVariables false
namespace Go.Proofs.YtkpcnfchhnfpoaaDoor
open Go.RowKit Go.Proofs.YtkpcnfchhnfpoaaDoorW.PrintWords Go.Proofs.YtkpcnfchhnfpoaaDoor.Sep Log LogI
namespace Log
theorem info9 : (Tryd.prog.info? 9).map (fun i => (i.zero, i.size, i.bytes)) = some (some (.string ⟨#[]⟩), 1, 16) := by kernel_rfl
theorem nf9 {w : World} {p : Nat} {s : LS} {v : Value} {n : Nat} {xs : List Value} (h : At w p s) (ho : OwnS w 9 1 v n xs) : ∀ k, v.ownBlock = some k → ¬ foot p s k := by
  intro k hk hf
  obtain ⟨cs, hb⟩ := ho.blk hk
  rcases hf with rfl | hf | hf | ⟨g, hg, hf⟩
  · exact Blk.ne_ hb h.blk (by decide) rfl
  · exact h.u.ne_blk hb (by decide) hf
  · exact h.r.ne_blk hb (by decide) hf
  · exact OwnS.ne_blk (h.d g hg) hb (by decide) hf
theorem reads_str (w : World) (t : ByteArray) : Reads (w.alloc (.cells #[.string t] 9)) (w.heap.size + 1) 1 (some ⟨w.heap.size, 0, none⟩) 1 [.string t] := by
  have := (OwnS.new w 9 1 1 [.string t] rfl (by unfold maxLen; omega)).reads
  simpa using this
def els (gs : List GV) : List (List Edit) := gs.map fun g => g.2.2.2
theorem els_take (gs : List GV) (i : Nat) (hi : i < gs.length) : els (gs.take (i + 1)) = els (gs.take i) ++ [(gs.getD i G0).2.2.2] := by
  unfold els
  rw [List.take_add_one, List.map_append, List.getElem?_eq_getElem hi]
  simp [List.getD, hi]
def opn (b : Nat) (U : List (AG Int)) (ds : List Delta) (h : Int) : AS Int := ⟨b, U, [], some (⟨ds, h, 0⟩, false, 0)⟩
def shut (b : Nat) (U : List (AG Int)) : AS Int := ⟨b, U, [], none⟩
theorem beg_eq (b : Nat) (U : List (AG Int)) (h : Int) : (shut b U).begin_ LogI.zA h = opn b U [] h := rfl
theorem add_eq (b : Nat) (U : List (AG Int)) (ds : List Delta) (h : Int) (d : Delta) : (opn b U ds h).add [d] = opn b U (ds ++ [d].filter live) h := rfl
theorem com_none (b : Nat) (U : List (AG Int)) (h x : Int) : (opn b U [] h).commit x = shut b U := rfl
theorem com_some (b : Nat) (U : List (AG Int)) (ds : List Delta) (h x : Int) (hd : ds.isEmpty = false) : (opn b U ds h).commit x = shut b (trim b (U ++ [⟨ds, h, x⟩])) := by
  unfold AS.commit opn shut
  dsimp only
  rw [hd]
  rfl
theorem run_take (t : ByteArray) (es : List Edit) (j : Nat) (hj : j < es.length) : run t (es.take (j + 1)) = (apDo (run t (es.take j)).1 (cutD (run t (es.take j)).1 (es.getD j E0)), (run t (es.take j)).2 ++ [cutD (run t (es.take j)).1 (es.getD j E0)]) := by
  rw [← run_snoc]
  congr 1
  rw [List.take_add_one, List.getElem?_eq_getElem hj]
  simp [List.getD, hj]
theorem esum_run (t : ByteArray) (es : List Edit) : (run t es).1.size ≤ t.size + esum es := by
  have h := run_size es t
  have : (es.map fun e => e.2.2.size).sum ≤ esum es := by
    unfold esum
    clear h
    induction es with
    | nil => simp
    | cons e es ih => simp only [List.map_cons, List.sum_cons]; omega
  omega
theorem Log.LogI.LB.nfoot2 {w0 w : World} {p : Nat} {s : LS} {a : AS LogI.A} {N : Nat} (h : LB w0 w p s a N) (o : Obj) : ∀ b : Addr, some (⟨w.heap.size + 1, 0, none⟩ : Addr) = some b → ¬ foot p s b.block := fun b e hf => by
  injection e with e
  subst e
  have := h.at_.lt _ hf
  dsimp only at this
  omega
set_option maxHeartbeats 12800000
set_option maxRecDepth 100000
theorem texts_c (w0 w : World) (p : Nat) (s : LS) (b N : Nat) (hB : LB w0 w p s (shut b []) N) (t : ByteArray) (A : Option Addr) (n c : Nat) (gs : List GV) (h : ReadsG w0 w0.heap.size A n gs) (hz : tot t gs ≤ 1000000000) (hN : N ≤ 1000000000) :
    Calls Tryd.prog 21 #[.pointer (some ⟨p, 0, none⟩), .string t, .slice A n c] w fun e w' => ∃ v, e = .returned (.tuple #[v, .bool true]) ∧ OwnS w' 9 1 v (seq t (els gs)).1.length ((seq t (els gs)).1.map Value.string) ∧ (∀ k, v.ownBlock = some k → w.heap.size ≤ k) ∧ ∃ M, Box w0 w w' p s (shut b (und b (seq t (els gs)).2)) M := by
  obtain ⟨i0, hi0, hz0, hz1, hz2⟩ := info_parts info9
  have hl := h.len
  have HR := Lib.hid h
  have HZ := Lib.hid hz
  have HN := Lib.hid hN
  have H0 := Lib.hid hB
  have htn : n ≤ 1000000000 := by unfold tot at hz; omega
  have HW0 : Hid (Below w0.heap.size w0 w) := Lib.hid hB.below
  have HV0 := Lib.hid (OwnS.new w 9 1 1 [.string t] rfl (by unfold maxLen; omega))
  clear h hz hN hB
  go_enter Tryd.func21, Tryd.ntmps21
  go_wp2
  go_loopg [9, 1, 8] n (fun k v9 v1 v8 w' => ∃ i : Nat, v9 = .int .i64 i ∧ i + k = n ∧ ∃ tt : ByteArray, v1 = .string tt ∧ ∃ A8 c8 l8, v8 = .slice A8 (l8 + 1) c8 ∧ Hid (l8 + 1 = (seq t (els (gs.take i))).1.length) ∧ l8 ≤ i ∧ Hid (tt = lastT (seq t (els (gs.take i))).1) ∧ Hid (tt.size ≤ t.size + gsum (gs.take i)) ∧
    Hid (OwnS w' 9 1 (.slice A8 (l8 + 1) c8) (l8 + 1) ((seq t (els (gs.take i))).1.map Value.string)) ∧ Hid (∀ k, (Value.slice A8 (l8 + 1) c8).ownBlock = some k → w.heap.size ≤ k) ∧ ∃ s' M, Hid (M ≤ N + gsum (gs.take i)) ∧ Hid (LB w0 w' p s' (shut b (und b (seq t (els (gs.take i))).2)) M) ∧ Hid (Upd (foot p s) w w') ∧ Hid (Fr w p s s'))
  case atStart =>
    refine ⟨0, rfl, by omega, t, rfl, _, _, 0, rfl, Lib.hid rfl, by omega, Lib.hid rfl, Lib.hid (by simp), Lib.hid HV0.out, Lib.hid (fun k hk => Nat.le_of_eq (show w.heap.size = k by simpa [Value.ownBlock] using hk)), s, N, Lib.hid (by simp), Lib.hid (by have h := H0.out.later (below_one w (.cells #[.string t] 9)); simpa [els, seq, und] using h), Lib.hid ((Upd.refl _ _).alloc _), Lib.hid (Fr.refl _ _ _)⟩
  case round =>
    obtain ⟨i, rfl, hik, tt, rfl, A8, c8, l8, rfl, HL8, hl8i, HTT, HTS, HO8, HF8, s', M, HM, HB, HU, HFr⟩ := hrel
    cases gk with
    | zero =>
      have e1 : decide (i < n) = false := by simp; omega
      have HE : Hid (gs.take i = gs) := Lib.hid (List.take_of_length_le (by omega))
      go_wp2
      go_ret2
      rw [HE.out] at HL8 HO8 HB
      refine ⟨_, rfl, ?_, HF8.out, M, s', HB.out, HU.out, HFr.out⟩
      rw [← HL8.out]
      exact HO8.out
    | succ k1 =>
      have hi : i < n := by omega
      have e1 : decide (i < n) = true := by simp [hi]
      obtain ⟨k, off, rfl, c0, hok, hk⟩ := group_at HR.out hi
      have c0 := HB.out.below.cell (p := ⟨k, off + i, none⟩) hk |>.trans c0
      have HGS := Lib.hid (gsum_take gs i (by omega))
      have HGM := Lib.hid (gsum_mono gs (i + 1))
      have HEL := Lib.hid (els_take gs i (by omega))
      obtain ⟨g, hg⟩ : ∃ g, g = gs.getD i G0 := ⟨_, rfl⟩
      rw [← hg] at c0 hok HGS HEL
      clear hg
      have HOK := Lib.hid hok
      have hgl := hok.len
      obtain ⟨gA, gn, gc, ges⟩ := g
      unfold gcell at c0
      dsimp only at c0 hgl HGS HEL
      clear hok
      have hgn : gn ≤ 1000000000 := by
        have h1 := esum_len ges
        have h4 := HGM.out
        have h5 := HGS.out
        have h7 := HZ.out
        unfold tot at h7
        omega
      have HSQ : Hid (seq t (els (gs.take (i + 1))) = seq1 (seq t (els (gs.take i))) ges) := Lib.hid (by rw [HEL.out, seq_snoc])
      have hg2 : k < wr.heap.size := World.block_lt_of_cell? _ _ c0
      have HC0 : Hid (∀ w', Upd (foot p s') wr w' → w'.cell? ⟨k, off + i, none⟩ = some (.slice gA gn gc)) := Lib.hid (fun w' u => u.cell c0 (fun hf => by have := HB.out.new k hf; omega))
      go_wp2_with (go_at_call 33; refine (begin_b HB.out ((l8 : Nat) : Int) true rfl _ (beg_eq b _ _)).mono ?_; rintro e w1 ⟨rfl, s1, hb1, hu1, hf1⟩; have d0 := HC0.out _ hu1; have HB1 := Lib.hid hb1; have HU1 := Lib.hid hu1; have HF1 := Lib.hid hf1; clear hb1 hu1 hf1)
      have hl0 := HB1.out.at_.lt p (foot_p _ _)
      go_loopg [11, 1, 10] gn (fun k' v11 v1 v10 w' => ∃ j : Nat, v11 = .int .i64 j ∧ j + k' = gn ∧ ∃ tj : ByteArray, v1 = .string tj ∧ ∃ cj : Bool, v10 = .bool cj ∧ Hid (tj = (run tt (ges.take j)).1) ∧ Hid (cj = !((run tt (ges.take j)).2.filter live).isEmpty) ∧ Hid (OwnS w' 9 1 (.slice A8 (l8 + 1) c8) (l8 + 1) ((seq t (els (gs.take i))).1.map Value.string)) ∧
        ∃ s2 M2, Hid (M2 ≤ M + esum (ges.take j)) ∧ Hid (LB w0 w' p s2 (opn b (und b (seq t (els (gs.take i))).2) ((run tt (ges.take j)).2.filter live) (l8 : Int)) M2) ∧ Hid (Upd (foot p s') wr w') ∧ Hid (Fr wr p s' s2))
      case atStart => exact ⟨0, rfl, by omega, tt, rfl, false, rfl, Lib.hid rfl, Lib.hid rfl, Lib.hid (HO8.out.upd HU1.out (nf9 HB.out.at_ HO8.out)), s1, M, Lib.hid (by simp), Lib.hid HB1.out, Lib.hid HU1.out, Lib.hid HF1.out⟩
      case round =>
        obtain ⟨j, rfl, hjk, tj, rfl, cj, rfl, HTJ, HCJ, HOJ, s2, M2, HM2, HB2, HU2, HF2⟩ := hrel
        clear d0
        have d0 := HC0.out _ HU2.out
        have hzt : tt.size + esum ges ≤ 1000000000 := by
          have h1 := HTS.out
          have h4 := HGM.out
          have h5 := HGS.out
          have h7 := HZ.out
          unfold tot at h7
          omega
        have hm2 : M2 ≤ 2000000000 := by
          have h1 := HM2.out
          have h2 := HM.out
          have h3 := HN.out
          have h4 := HGM.out
          have h5 := HGS.out
          have h6 := esum_mono ges j
          have h7 := HZ.out
          unfold tot at h7
          omega
        cases gk with
        | zero =>
          have e2 : decide (j < gn) = false := by simp; omega
          have HTN : Hid (tj = lastT (seq t (els (gs.take (i + 1)))).1) := Lib.hid (by rw [HSQ.out, seq_text, ← HTT.out, HTJ.out, List.take_of_length_le (l := ges) (i := j) (by omega)])
          have hall : ges.take j = ges := List.take_of_length_le (by omega)
          rw [hall] at HTJ HCJ HB2
          have HTS2 : Hid (tj.size ≤ t.size + gsum (gs.take (i + 1))) := Lib.hid (by
            have h1 := esum_run tt ges
            have h2 := HTS.out
            have h3 := HGS.out
            rw [HTJ.out]
            omega)
          have HM3 : Hid (M2 ≤ N + gsum (gs.take (i + 1))) := Lib.hid (by
            have h1 := HM2.out
            rw [hall] at h1
            have h2 := HM.out
            have h3 := HGS.out
            omega)
          have z1 : IntKind.i64.wrap ((l8 : Int) + 1) = (l8 : Int) + 1 := by rw [IntKind.wrap_i64]; omega
          have HUA : Hid (Upd (foot p s) w _) := Lib.hid (HU.out.then_ HU2.out (fun k hk => HFr.out k hk))
          have HFA : Hid (Fr w p s s2) := Lib.hid (fun k hk => by
            rcases HF2.out k hk with e | e
            · exact HFr.out k e
            · exact .inr (Nat.le_trans HU.out.size e))
          have HLA := Lib.hid (show lastT (seq t (els (gs.take i))).1 = tt from HTT.out.symm)
          cases cj with
          | false =>
            have hem : ((run tt ges).2.filter live).isEmpty = true := by
              have h := HCJ.out
              cases hx : ((run tt ges).2.filter live).isEmpty with
              | true => rfl
              | false => rw [hx] at h; cases h
            have hnil : (run tt ges).2.filter live = [] := by simpa using hem
            have HSE : Hid (seq t (els (gs.take (i + 1))) = seq t (els (gs.take i))) := Lib.hid (by rw [HSQ.out]; unfold seq1; rw [HLA.out, if_pos hem])
            have HB2' := HB2.out
            rw [hnil] at HB2'
            have HB2 := Lib.hid HB2'
            clear HB2' hem hnil hall
            go_wp2_with (go_at_call 43; refine (commit_b HB2.out ((l8 : Int) + 1) false rfl _ (com_none b _ _ _)).mono ?_; rintro e w6 ⟨rfl, s6, hb6, hu6, hf6⟩; have HB6 := Lib.hid hb6; have HU6 := Lib.hid (HUA.out.then_ hu6 (fun k hk => HFA.out k hk)); have HF6 := Lib.hid (HFA.out); have HG6 := Lib.hid hf6; have HO6 := Lib.hid (HOJ.out.upd hu6 (nf9 HB2.out.at_ HOJ.out)); clear hb6 hu6 hf6)
            go_roundg k1
            case measure => omega
            case rel =>
              refine ⟨i + 1, by simp, by omega, tj, rfl, A8, c8, l8, rfl, Lib.hid ?_, by omega, HTN, HTS2, Lib.hid ?_, HF8, s6, M2, HM3, Lib.hid ?_, HU6, Lib.hid (fun k hk => ?_)⟩
              · rw [HSE.out]; exact HL8.out
              · rw [HSE.out]; exact HO6.out
              · rw [HSE.out]; exact HB6.out
              · rcases HG6.out k hk with e | e
                · exact HF6.out k e
                · exact .inr (Nat.le_trans HUA.out.size e)
          | true =>
            have hem : ((run tt ges).2.filter live).isEmpty = false := by
              have h := HCJ.out
              cases hx : ((run tt ges).2.filter live).isEmpty with
              | false => rfl
              | true => rw [hx] at h; cases h
            have HSE : Hid (seq t (els (gs.take (i + 1))) = ((seq t (els (gs.take i))).1 ++ [tj], (seq t (els (gs.take i))).2 ++ [⟨(run tt ges).2.filter live, (l8 : Int), (l8 : Int) + 1⟩])) := Lib.hid (by
              rw [HSQ.out]; unfold seq1; rw [HLA.out, if_neg (by rw [hem]; simp), ← HL8.out, HTJ.out]
              simp)
            obtain ⟨cb, hcb⟩ : ∃ cb, cb = decide (0 < b) := ⟨_, rfl⟩
            have HCO : Hid ((opn b (und b (seq t (els (gs.take i))).2) ((run tt ges).2.filter live) (l8 : Int)).commitB = cb) := Lib.hid (by
              rw [hcb]
              show (!((run tt ges).2.filter live).isEmpty && decide (0 < b)) = _
              rw [hem]; rfl)
            have HCS := Lib.hid (com_some b (und b (seq t (els (gs.take i))).2) ((run tt ges).2.filter live) (l8 : Int) ((l8 : Int) + 1) hem)
            have g1 : decide ((0 : Int) < (b : Int)) = cb := by rw [hcb]; simp
            have g2 : decide (0 < b) = cb := hcb.symm
            have g3 : (cb != cb) = false := by simp
            have g4 : (cb == cb) = true := by simp
            have HLT : Hid (l8 ≤ 1000000000) := Lib.hid (by omega)
            clear hem hall hcb
            go_wp2_with (first
              | (go_at_call 43; refine (commit_b HB2.out ((l8 : Int) + 1) cb HCO.out _ HCS.out).mono ?_; rintro e w6 ⟨rfl, s6, hb6, hu6, hf6⟩; have HB6 := Lib.hid hb6; have HU6 := Lib.hid (HUA.out.then_ hu6 (fun k hk => HFA.out k hk)); have HF6 := Lib.hid (HFA.out); have HG6 := Lib.hid hf6; have ho := HOJ.out.upd hu6 (nf9 HB2.out.at_ HOJ.out); have HO6 := Lib.hid ho; have HO7 := Lib.hid (OwnS.upd ho (Upd.below (below_one w6 (.cells #[.string tj] 9)) No) (fun _ _ h => h)); clear hb6 hu6 hf6 ho)
              | (go_at_call 22; refine (bound_b HB6.out b rfl).mono ?_; rintro e w7 ⟨rfl, rfl⟩)
              | (at_builtin; refine wpList_append_s (v := .slice A8 (l8 + 1) c8) rfl (.tmp 87) (.tmp 89) _ rfl Tryd.underlying42 hi0 hz0 hz1 hz2 rfl (by omega) rfl HO7.out rfl (reads_str w6 tj) (by intro u hu; simp at hu; subst hu; rfl) (by unfold maxLen; omega) (by omega) ?_; intro v8 w8 ho8 hg8 hb8; have HO8' := Lib.hid ho8; have HG8 := Lib.hid hg8; have HB8 := Lib.hid hb8; clear ho8 hg8 hb8))
            obtain ⟨A9, c9, hv9, -⟩ := HO8'.out.form
            subst hv9
            have HUG : Hid (Upd (fun k => (Value.slice A8 (l8 + 1) c8).ownBlock = some k) (w6.alloc (.cells #[.string tj] 9)) w8) := Lib.hid (Upd.grown HG8.out (fun k e => e))
            have hw06 : w.heap.size ≤ (w6.alloc (.cells #[.string tj] 9)).heap.size := Nat.le_trans HU6.out.size (by simp)
            go_roundg k1
            case measure => omega
            case rel =>
              refine ⟨i + 1, by simp, by omega, tj, rfl, A9, c9, l8 + 1, rfl, Lib.hid ?_, by omega, HTN, HTS2, Lib.hid ?_, Lib.hid (fun k hk => ?_), s6, M2, HM3, Lib.hid ?_, Lib.hid ?_, Lib.hid (fun k hk => ?_)⟩
              · rw [HSE.out]
                have := HL8.out
                simp only [List.length_append, List.length_singleton]
                omega
              · rw [HSE.out]
                have h8 := HO8'.out
                simpa using h8
              · rcases HB8.out with e | e
                · exact HF8.out k (by rw [← e]; exact hk)
                · exact Nat.le_trans hw06 (e k hk)
              · have h6 := (HB6.out.later (below_one w6 (.cells #[.string tj] 9))).beside HUG.out (fun k hk => ⟨Nat.le_trans HW0.out.size (HF8.out k hk), nf9 HB6.out.at_ HO6.out k hk⟩)
                rw [HSE.out, ← und_push]
                exact h6
              · exact (HU6.out.alloc _).then_ HUG.out (fun k hk => .inr (HF8.out k hk))
              · rcases HG6.out k hk with e | e
                · exact HF6.out k e
                · exact .inr (Nat.le_trans HUA.out.size e)
        | succ k2 =>
          have hj : j < gn := by omega
          have e2 : decide (j < gn) = true := by simp [hj]
          obtain ⟨k3, off3, e3, x0, x1, x2, hk3⟩ := edit_at HOK.out hj
          dsimp only at e3 x0 x1 x2
          have x0 := (HB2.out.below.cell (p := ⟨k3, off3 + j * 3, none⟩) hk3).trans x0
          have x1 := (HB2.out.below.cell (p := ⟨k3, off3 + j * 3 + 1, none⟩) hk3).trans x1
          have x2 := (HB2.out.below.cell (p := ⟨k3, off3 + j * 3 + 2, none⟩) hk3).trans x2
          have HES := Lib.hid (esum_take ges j (by omega))
          have HEM := Lib.hid (esum_mono ges (j + 1))
          have HRT := Lib.hid (run_take tt ges j (by omega))
          have hxs := esum_run tt (ges.take j)
          generalize ges.getD j E0 = x at *
          have hzx : tj.size + x.2.2.size ≤ 1000000000 := by
            have h1 := HTJ.out
            have h2 := HES.out
            have h3 := HEM.out
            rw [h1]
            omega
          have HCUT := fun w => cut_c w tj x (by omega)
          obtain ⟨d, hd⟩ : ∃ d, d = cutD tj x := ⟨_, rfl⟩
          have hok : apOk tj d = true := by rw [hd]; exact cut_ok _ _
          have A1 : apply tj [d] = (apDo tj d, true) := by rw [apply_cons, if_pos hok]; rfl
          have hds : d.2.2.size = x.2.2.size := by rw [hd]; rfl
          have hdo : d.2.1.size ≤ 1000000000 := by
            obtain ⟨kk, e1, e2, e3⟩ := (apOk_iff _ _).1 hok
            omega
          rw [← HTJ.out, ← hd] at HRT
          rw [← hd] at HCUT
          have HTN : Hid (apDo tj d = (run tt (ges.take (j + 1))).1) := Lib.hid (by rw [HRT.out])
          have HDN : Hid ((run tt (ges.take (j + 1))).2.filter live = (run tt (ges.take j)).2.filter live ++ [d].filter live) := Lib.hid (by rw [HRT.out, List.filter_append])
          have hlive : ∀ a o i, d = (a, o, i) → live d = (!o.toList.isEmpty || !i.toList.isEmpty) := fun a o i e => by rw [e]; rfl
          clear hd hxs HRT
          generalize htn : apDo tj d = tn at *
          clear htn
          obtain ⟨da, dO, dI⟩ := d
          have HLV := Lib.hid (hlive da dO dI rfl)
          unfold dagg at HCUT
          dsimp only at HCUT hds hdo
          obtain ⟨xa, xb, xc⟩ := x
          dsimp only at x0 x1 x2 HCUT hds hzx HES
          have HCUT := Lib.hid HCUT
          have HA1 := Lib.hid A1
          have HHK := Lib.hid hok
          subst e3
          clear A1 hok hlive
          have hcase : ∃ v : Bool, Hid (v = !((run tt (ges.take (j + 1))).2.filter live).isEmpty) ∧ ((cj = true ∧ v = true) ∨ (cj = false ∧ dO.toList.isEmpty = false ∧ v = true) ∨ (cj = false ∧ dO.toList.isEmpty = true ∧ dI.toList.isEmpty = false ∧ v = true) ∨ (cj = false ∧ dO.toList.isEmpty = true ∧ dI.toList.isEmpty = true ∧ v = false)) := by
            refine ⟨cj || live (da, dO, dI), Lib.hid ?_, ?_⟩
            · rw [HDN.out, HCJ.out]
              cases hx : (run tt (ges.take j)).2.filter live with
              | nil => cases hy : live (da, dO, dI) <;> simp [hy]
              | cons x y => simp
            · rw [HLV.out]
              cases cj <;> cases dO.toList.isEmpty <;> cases dI.toList.isEmpty <;> simp
          obtain ⟨v, HV, hcase⟩ := hcase
          rcases hcase with ⟨rfl, rfl⟩ | ⟨rfl, b1, rfl⟩ | ⟨rfl, b1, b2, rfl⟩ | ⟨rfl, b1, b2, rfl⟩
          all_goals
            go_wp2_with (first
              | (go_at_call 18; refine (HCUT.out _).mono ?_; rintro e w3 ⟨rfl, hb⟩; have HB3 := Lib.hid (HB2.out.later hb); have HU3 := Lib.hid (HU2.out.then_ (Upd.below hb No) (fun k hk => hk.elim)); have HO3 := Lib.hid (HOJ.out.upd (Upd.below hb No) (fun _ _ h => h)); have HL3 := Lib.hid hb.size; clear hb)
              | (go_at_call 11; refine (ap1 (w3.alloc _) _ (by simp) tj tn (da, dO, dI) HA1.out (by dsimp only; omega) (by dsimp only; omega)).mono ?_; rintro e w4 ⟨rfl, hb⟩; have hbb := Blk.later (Blk.new w3 24 #[.int .i64 da, .string dO, .string dI]) hb; obtain ⟨q0, q1, q2⟩ := Blk.three hbb; have HD4 := Lib.hid hbb; have hb2 := (below_one w3 (.cells #[.int .i64 da, .string dO, .string dI] 24)).trans (hb.mono (below_one w3 (.cells #[.int .i64 da, .string dO, .string dI] 24)).size); have HB4 := Lib.hid (HB3.out.later hb2); have HU4 := Lib.hid (HU3.out.then_ (Upd.below hb2 No) (fun k hk => hk.elim)); have HO4 := Lib.hid (HO3.out.upd (Upd.below hb2 No) (fun _ _ h => h)); clear hb hbb hb2)
              | (go_at_call 40; refine (add_b (HB4.out.later (below_one _ _)) (some ⟨w4.heap.size, 0, none⟩) 1 1 [(da, dO, dI)] (Log.ReadsD.one w4 (da, dO, dI)) (by omega) (fun _ => HB4.out.nfoot) true rfl _ (add_eq b _ _ _ _)).mono ?_; rintro e w5 ⟨rfl, s5, hb5, hu5, hf5⟩; have hbb := (HD4.out.alloc (.cells #[.int .i64 da, .string dO, .string dI] 24)).upd hu5 (fun hf => by have h1 := HB2.out.at_.lt _ hf; have h2 := HL3.out; omega); obtain ⟨r0, r1, r2⟩ := Blk.three hbb; have HB5 := Lib.hid hb5; have HU5 := Lib.hid ((HU4.out.alloc _).then_ hu5 (fun k hk => HF2.out k hk)); have HF5 := Lib.hid (show Fr _ p s2 s5 from fun k hk => (hf5 k hk)); have HO5 := Lib.hid ((HO4.out.upd (Upd.below (below_one w4 (.cells #[.int .i64 da, .string dO, .string dI] 24)) No) (fun _ _ h => h)).upd hu5 (nf9 HB2.out.at_ HOJ.out)); clear hb5 hu5 hf5 hbb))
          all_goals
            go_roundg k2
            case measure => omega
            case rel =>
              refine ⟨j + 1, by simp, by omega, tn, rfl, _, rfl, HTN, HV, Lib.hid HO5.out, s5, M2 + 1, Lib.hid ?_, Lib.hid ?_, Lib.hid HU5.out, Lib.hid (fun k hk => ?_)⟩
              · have h1 := HM2.out
                have h2 := HES.out
                omega
              · have h1 := HB5.out
                rw [HDN.out]
                exact h1
              · rcases HF5.out k hk with e | e
                · exact HF2.out k e
                · exact .inr (Nat.le_trans HU4.out.size (by simp at e; omega))
end Log
end Go.Proofs.YtkpcnfchhnfpoaaDoor
