/- LogEnds, walked. Printed by a program of this claim. -/
import Derived.Test.YtkpcnfchhnfpoaaDoorEnds
import Derived.Deep.DeepFit
set_option linter.unusedVariables false
namespace Go.Proofs.YtkpcnfchhnfpoaaDoor
open Go.RowKit Go.Proofs.YtkpcnfchhnfpoaaDoorW.PrintWords Go.Proofs.YtkpcnfchhnfpoaaDoor.Sep Log LogI
namespace Log
theorem below_of_drew2 {w w' : World} (h : Below w.drew.heap.size w.drew w') : Below w.heap.size w w' := ⟨h.os, h.tape, h.output, h.size, h.block⟩
theorem ap0 (w : World) : Calls Tryd.prog 11 #[.string ⟨#[]⟩, .slice none 0 0] w fun e w' => e = .returned (.tuple #[.string ⟨#[]⟩, .bool true]) ∧ Below w.heap.size w w' := apply_p w ⟨#[]⟩ none 0 0 [] ⟨rfl, Reads.none_⟩ (by omega) (by decide) (by simp)
theorem zero_lb {w0 w : World} (hb : Below w0.heap.size w0 w) (N : Nat) (hN : N ≤ 100000000000) : LB w0 (w.alloc (.cells #[.int .i64 0, .slice none 0 0, .slice none 0 0, .slice none 0 0, .int .i64 0, .int .i64 0, .bool false, .bool false, .int .i64 0] 83)) w.heap.size ⟨0, .slice none 0 0, .slice none 0 0, [], [], g0, false, false, 0⟩ (AS.new 0) N := by
  refine ⟨⟨Blk.new _ _ _, OwnS.nil _ _ _, OwnS.nil _ _ _, (fun k h => by cases h), fun g hg => ?_, ?_⟩, rfl, ?_, hb.alloc hb.size _, AS.Inv.new 0 (by omega) N, hN⟩
  · simp [LS.groups] at hg
    subst hg
    exact OwnS.nil _ _ _
  · simp [blocks, LS.groups, g0, Value.ownBlock]
  · rintro k (rfl | hk | hk | ⟨g, hg, hk⟩)
    · exact hb.size
    · cases hk
    · cases hk
    · simp [LS.groups] at hg
      subst hg
      cases hk
set_option maxHeartbeats 40000000
set_option maxRecDepth 100000
theorem ends_w (W : World) (A : Option Addr) (l c : Nat) (os : List OpV) (hr : ReadsO W W.heap.size A l os) (hz : osum os + l ≤ 2000000) (d : Delta) :
    Calls Tryd.prog 9 #[.slice A l c, dagg d] W fun e w' => e = .returned (.bool true) ∧ Below W.heap.size W w' := by
  obtain ⟨da, dO, dI⟩ := d
  unfold dagg
  dsimp only
  have hl := hr.len
  have HZ := Lib.hid hz
  have hll : l ≤ 2000000 := by omega
  obtain ⟨W1, hW1⟩ : ∃ W1, W1 = W.alloc (.cells #[.int .i64 da, .string dO, .string dI] 24) := ⟨_, rfl⟩
  have hW : Below W.heap.size W W1 := by rw [hW1]; exact below_one W _
  have HR := Lib.hid (hr.later hW)
  have HD : Hid (Blk W1 W.heap.size 24 #[.int .i64 da, .string dO, .string dI]) := Lib.hid (by rw [hW1]; exact Blk.new W _ _)
  have HW := Lib.hid hW
  have HW1 := Lib.hid hW1
  have hq2 : ∀ w, (binOp .eql 24 (.agg #[.int .i64 da, .string dI, .string dO]) (.agg #[.int .i64 da, .string dI, .string dO])).run Tryd.prog w = .ok (.bool true) w := fun w => by
    have h := eql24 w (da, dI, dO) (da, dI, dO)
    rw [deq_eq] at h
    simpa [dagg] using h
  clear hr hz hW
  go_enter Tryd.func9, Tryd.ntmps9
  go_wp2_with (first
    | (go_at_call 10; refine (fixed _).mono ?_; rintro e w1 ⟨rfl, hb⟩; rw [← hW1] at hb; have HB1 := Lib.hid hb; clear hb)
    | (go_at_call 20; refine (new_b (w0 := W1) 0 (HB1.out.alloc HB1.out.size _) (AS.new 0) rfl 0 (by omega)).mono ?_; rintro e w2 ⟨q, t, rfl, hb2, hf2, hbb⟩; have hlp := (zero_lb HB1.out 0 (by omega)); have hlp2 := hlp.later hbb; have hT : Two W1 w2 w1.heap.size _ (AS.new 0) 0 q t (AS.new 0) 0 := ⟨hlp2, hb2, fun k hk hx => by have h1 := hlp.at_.lt k hk; have h2 := hf2 k hx; omega⟩; have HT := Lib.hid hT; clear hb2 hf2 hbb hlp hlp2 hT))
  clear hW1
  obtain ⟨p, hp⟩ : ∃ p, p = w1.heap.size := ⟨_, rfl⟩
  rw [← hp] at HT ⊢
  clear hp
  go_loopg [8] l (fun k v8 w' => ∃ i : Nat, v8 = .int .i64 i ∧ i + k = l ∧ ∃ s t a N, Hid (Two W1 w' p s a N q t a N) ∧ Hid (Zr a) ∧ Hid (N ≤ osum (os.take i)))
  case atStart => exact ⟨0, rfl, by omega, _, t, AS.new 0, 0, HT, Lib.hid Zr.new, Lib.hid (Nat.zero_le _)⟩
  case round =>
    obtain ⟨i, rfl, hik, s, t, a, N, HT, HZr, HN⟩ := hrel
    cases gk with
    | zero =>
      have e1 : decide (i < l) = false := by simp; omega
      have hdd := Blk.later HD.out HT.out.l.below
      obtain ⟨x0, x1, x2⟩ := Blk.three hdd
      have HDD := Lib.hid hdd
      have f0 : ((⟨#[]⟩ : ByteArray).toList == (⟨#[]⟩ : ByteArray).toList) = true := by simp
      have f1 : (⟨#[]⟩ : ByteArray).toList.isEmpty = true := by rw [ByteArray.toList_eq]; rfl
      clear hdd
      go_wp2_with (go_at_call 11; refine (ap0 _).mono ?_; rintro e w3 ⟨rfl, hb⟩; have hdd := Blk.later HDD.out hb; obtain ⟨y0, y1, y2⟩ := Blk.three hdd; have HD3 := Lib.hid hdd; have HB3 := Lib.hid (HT.out.l.below.trans (hb.mono HT.out.l.below.size)); clear hb hdd)
      go_region_held3 (fun w' => w'.cell? ⟨W.heap.size, 0, none⟩ = some (.int .i64 da) ∧ w'.cell? ⟨W.heap.size, 1, none⟩ = some (.string dO) ∧ w'.cell? ⟨W.heap.size, 2, none⟩ = some (.string dI))
        (first | go_keep | exact ⟨y0, y1, y2⟩ | exact ⟨z0, z1, z2⟩)
        ((go_at_call 16; refine (invert_p_c _ da dO dI).mono ?_; rintro e w4 ⟨rfl, hb⟩; have hb := below_of_drew2 hb; obtain ⟨z0, z1, z2⟩ := Blk.three (Blk.later HD3.out hb); have HB4 := Lib.hid (HB3.out.trans (hb.mono HB3.out.size)); clear hb))
      go_wp2
      go_ret
      exact ⟨rfl, HW.out.trans (HB4.out.mono HW.out.size)⟩
    | succ k1 =>
      have hi : i < l := by omega
      have e1 : decide (i < l) = true := by simp [hi]
      obtain ⟨kb, off, rfl, c0, c1, c2, hk, hrd⟩ := op_at HR.out hi
      have HOS := Lib.hid (osum_take os i (by omega))
      have HOM := Lib.hid (osum_mono os (i + 1))
      have c0 := (HT.out.l.below.cell (p := ⟨kb, off + i * 3, none⟩) hk).trans c0
      have c1 := (HT.out.l.below.cell (p := ⟨kb, off + i * 3 + 1, none⟩) hk).trans c1
      have c2 := (HT.out.l.below.cell (p := ⟨kb, off + i * 3 + 2, none⟩) hk).trans c2
      obtain ⟨op, hop⟩ : ∃ op, op = os.getD i O0 := ⟨_, rfl⟩
      rw [← hop] at c0 c1 c2 hrd HOS
      clear hop
      have HRD := Lib.hid hrd
      have hln := hrd.1
      obtain ⟨ok, on, oA, ol, oc, ods'⟩ := op
      dsimp only at c0 c1 c2
      clear hrd
      have hol : ol ≤ 2000000 := by
        have h1 := HOS.out
        have h2 := HOM.out
        have h3 := HZ.out
        have h4 : (ods (ok, on, oA, ol, oc, ods')).length = ol := hln
        omega
      have hNN : N ≤ 2000000 := by
        have h1 := HN.out
        have h2 := osum_mono os i
        have h3 := HZ.out
        omega
      have HN1 : Hid (N + ol ≤ osum (os.take (i + 1))) := Lib.hid (by
        have h1 := HOS.out
        have h2 := HN.out
        have h4 : (ods (ok, on, oA, ol, oc, ods')).length = ol := hln
        omega)
      have HN0 : Hid (N ≤ osum (os.take (i + 1))) := Lib.hid (by have := HN1.out; omega)
      by_cases h1 : ok = 1
      · as_aux_lemma =>
        -- kind 1
        subst h1
        obtain ⟨ob, hob⟩ : ∃ ob, ob = (a.begin_ LogI.zA on).isOpen := ⟨_, rfl⟩
        have HOB := Lib.hid hob.symm
        clear hob
        have ob1 : (ob != ob) = false := by simp
        have HZ2 := Lib.hid (HZr.out.begin_ on)
        have HTA := Lib.hid (HT.out.later (below_one _ (.cells #[.int .i64 1, .int .i64 on, .slice oA ol oc] 59)))
        have HBO := Lib.hid (Blk.new wr 59 #[.int .i64 1, .int .i64 on, .slice oA ol oc])
        obtain ⟨rb, hrb⟩ : ∃ rb, rb = (!a.isOpen) := ⟨_, rfl⟩
        have HRB := Lib.hid hrb.symm
        clear hrb
        have rb1 : (rb == rb) = true := by simp
        have HTD := Lib.hid HTA.out.drew
        have hw9 : (wr.alloc (.cells #[.int .i64 1, .int .i64 on, .slice oA ol oc] 59)).heap.size = wr.heap.size + 1 := by simp
        have HW9 := Lib.hid hw9
        clear hw9
        go_wp2_with (first
          | (go_at_call 46; go_fit (nil_cancel _); rintro e wx ⟨rfl, rfl⟩)
          | (go_at_call 25; go_fit (nil_undo _); rintro e wx ⟨rfl, rfl⟩)
          | (go_at_call 26; go_fit (nil_redo _); rintro e wx ⟨rfl, rfl⟩)
          | (go_at_call 50; go_fit (nil_clear _); rintro e wx ⟨rfl, rfl⟩)
          | (go_at_call 33; go_fit (nil_begin _ _); rintro e wx ⟨rfl, rfl⟩)
          | (go_at_call 37; go_fit (nil_resume _); rintro e wx ⟨rfl, rfl⟩)
          | (go_at_call 40; go_fit (nil_add _ _); rintro e wx ⟨rfl, rfl⟩)
          | (go_at_call 43; go_fit (nil_commit _ _); rintro e wx ⟨rfl, rfl⟩)
          | (go_at_call 55; go_fit (nil_open _); rintro e wx ⟨rfl, rfl⟩)
          | (go_at_call 23; go_fit (nil_undos _); rintro e wx ⟨rfl, rfl⟩)
          | (go_at_call 24; go_fit (nil_redos _); rintro e wx ⟨rfl, rfl⟩)
          | (go_at_call 22; go_fit (nil_bound _); rintro e wx ⟨rfl, rfl⟩))
        go_region_held3 (fun w' => w'.cell? ⟨wr.heap.size, 1, none⟩ = some (.int .i64 on))
          (first | go_keep | exact m1 | exact n1)
          (first
            | (go_at_call 33; go_fit (begin_b HTD.out.l on rb HRB.out _ rfl); rintro e w3 ⟨rfl, hb⟩; obtain ⟨s1, ht1, hu1, hr1⟩ := HTD.out.stepL hb; have hbo := HBO.out.drew.upd hu1 (fun e => e.elim (fun e => by have h9 := HT.out.l.at_.lt _ e; omega) (fun e => by have h9 := HT.out.r.at_.lt _ e; omega)); obtain ⟨m0, m1, m2⟩ := Blk.three hbo; have HBO1 := Lib.hid hbo; have HT1 := Lib.hid ht1; have HFR := Lib.hid hr1; clear hb ht1 hu1 hbo hr1)
            | (go_at_call 33; go_fit (begin_b HT1.out.r on rb HRB.out _ rfl); rintro e w4 ⟨rfl, hb⟩; obtain ⟨t2, ht2, hu2, -⟩ := HT1.out.stepR hb; have hbo := HBO1.out.upd hu2 (fun e => e.elim (fun e => (HFR.out _ e).elim (fun e => by have h9 := HT.out.l.at_.lt _ e; omega) (fun e => by have h9 := HW9.out; simp at e; omega)) (fun e => by have h9 := HT.out.r.at_.lt _ e; omega)); obtain ⟨n0, n1, n2⟩ := Blk.three hbo; have HT2 := Lib.hid ht2; clear hb ht2 hu2 hbo))
        go_wp2_with (first
          | (go_at_call 23; go_fit (undos_b HT2.out.l 0 (by rw [HZ2.out.u]; rfl)); rintro e wx ⟨rfl, rfl⟩)
          | (go_at_call 24; go_fit (redos_b HT2.out.l 0 (by rw [HZ2.out.r]; rfl)); rintro e wx ⟨rfl, rfl⟩)
          | (go_at_call 55; go_fit (open_b HT2.out.l ob HOB.out); rintro e wx ⟨rfl, rfl⟩)
          | (go_at_call 55; go_fit (open_b HT2.out.r ob HOB.out); rintro e wx ⟨rfl, rfl⟩))
        go_roundg k1
        case measure => omega
        case rel => exact ⟨i + 1, by simp, by omega, _, _, _, _, HT2, HZ2, HN0⟩
      by_cases h2 : ok = 2
      · as_aux_lemma =>
        -- kind 2
        subst h2
        obtain ⟨ob, hob⟩ : ∃ ob, ob = (a.resume).isOpen := ⟨_, rfl⟩
        have HOB := Lib.hid hob.symm
        clear hob
        have ob1 : (ob != ob) = false := by simp
        have HZ2 := Lib.hid (HZr.out.resume)
        have HTA := Lib.hid (HT.out.later (below_one _ (.cells #[.int .i64 2, .int .i64 on, .slice oA ol oc] 59)))
        have HBO := Lib.hid (Blk.new wr 59 #[.int .i64 2, .int .i64 on, .slice oA ol oc])
        obtain ⟨rb, hrb⟩ : ∃ rb, rb = a.resumeG.isSome := ⟨_, rfl⟩
        have HRB := Lib.hid hrb.symm
        clear hrb
        have rb1 : (rb == rb) = true := by simp
        have hw9 : (wr.alloc (.cells #[.int .i64 2, .int .i64 on, .slice oA ol oc] 59)).heap.size = wr.heap.size + 1 := by simp
        have HW9 := Lib.hid hw9
        clear hw9
        go_wp2_with (first
          | (go_at_call 46; go_fit (nil_cancel _); rintro e wx ⟨rfl, rfl⟩)
          | (go_at_call 25; go_fit (nil_undo _); rintro e wx ⟨rfl, rfl⟩)
          | (go_at_call 26; go_fit (nil_redo _); rintro e wx ⟨rfl, rfl⟩)
          | (go_at_call 50; go_fit (nil_clear _); rintro e wx ⟨rfl, rfl⟩)
          | (go_at_call 33; go_fit (nil_begin _ _); rintro e wx ⟨rfl, rfl⟩)
          | (go_at_call 37; go_fit (nil_resume _); rintro e wx ⟨rfl, rfl⟩)
          | (go_at_call 40; go_fit (nil_add _ _); rintro e wx ⟨rfl, rfl⟩)
          | (go_at_call 43; go_fit (nil_commit _ _); rintro e wx ⟨rfl, rfl⟩)
          | (go_at_call 55; go_fit (nil_open _); rintro e wx ⟨rfl, rfl⟩)
          | (go_at_call 23; go_fit (nil_undos _); rintro e wx ⟨rfl, rfl⟩)
          | (go_at_call 24; go_fit (nil_redos _); rintro e wx ⟨rfl, rfl⟩)
          | (go_at_call 22; go_fit (nil_bound _); rintro e wx ⟨rfl, rfl⟩)
          | (go_at_call 37; go_fit (resume_b HTA.out.l rb HRB.out _ rfl); rintro e w3 ⟨rfl, hb⟩; obtain ⟨s1, ht1, hu1, hr1⟩ := HTA.out.stepL hb; have hbo := HBO.out.upd hu1 (fun e => e.elim (fun e => by have h9 := HT.out.l.at_.lt _ e; omega) (fun e => by have h9 := HT.out.r.at_.lt _ e; omega)); obtain ⟨m0, m1, m2⟩ := Blk.three hbo; have HBO1 := Lib.hid hbo; have HT1 := Lib.hid ht1; have HFR := Lib.hid hr1; clear hb ht1 hu1 hbo hr1)
          | (go_at_call 37; go_fit (resume_b HT1.out.r rb HRB.out _ rfl); rintro e w4 ⟨rfl, hb⟩; obtain ⟨t2, ht2, hu2, -⟩ := HT1.out.stepR hb; have hbo := HBO1.out.upd hu2 (fun e => e.elim (fun e => (HFR.out _ e).elim (fun e => by have h9 := HT.out.l.at_.lt _ e; omega) (fun e => by have h9 := HW9.out; simp at e; omega)) (fun e => by have h9 := HT.out.r.at_.lt _ e; omega)); obtain ⟨n0, n1, n2⟩ := Blk.three hbo; have HT2 := Lib.hid ht2; clear hb ht2 hu2 hbo)
          | (go_at_call 23; go_fit (undos_b HT2.out.l 0 (by rw [HZ2.out.u]; rfl)); rintro e wx ⟨rfl, rfl⟩)
          | (go_at_call 24; go_fit (redos_b HT2.out.l 0 (by rw [HZ2.out.r]; rfl)); rintro e wx ⟨rfl, rfl⟩)
          | (go_at_call 55; go_fit (open_b HT2.out.l ob HOB.out); rintro e wx ⟨rfl, rfl⟩)
          | (go_at_call 55; go_fit (open_b HT2.out.r ob HOB.out); rintro e wx ⟨rfl, rfl⟩))
        go_roundg k1
        case measure => omega
        case rel => exact ⟨i + 1, by simp, by omega, _, _, _, _, HT2, HZ2, HN0⟩
      by_cases h3 : ok = 3
      · as_aux_lemma =>
        -- kind 3
        subst h3
        obtain ⟨ob, hob⟩ : ∃ ob, ob = (a.add ods').isOpen := ⟨_, rfl⟩
        have HOB := Lib.hid hob.symm
        clear hob
        have ob1 : (ob != ob) = false := by simp
        have HZ2 := Lib.hid (HZr.out.add ods')
        have HTA := Lib.hid (HT.out.later (below_one _ (.cells #[.int .i64 3, .int .i64 on, .slice oA ol oc] 59)))
        have HBO := Lib.hid (Blk.new wr 59 #[.int .i64 3, .int .i64 on, .slice oA ol oc])
        obtain ⟨rb, hrb⟩ : ∃ rb, rb = a.isOpen := ⟨_, rfl⟩
        have HRB := Lib.hid hrb.symm
        clear hrb
        have rb1 : (rb == rb) = true := by simp
        have HTD := Lib.hid HTA.out.drew
        have hw9 : (wr.alloc (.cells #[.int .i64 3, .int .i64 on, .slice oA ol oc] 59)).heap.size = wr.heap.size + 1 := by simp
        have HW9 := Lib.hid hw9
        clear hw9
        have HRA : ∀ w', Below W1.heap.size W1 w' → ReadsD w' w'.heap.size oA ol ods' := fun w' hb => ⟨HRD.out.1, (HRD.out.2.below hb).more hb.size⟩
        have HNF : ∀ (w' : World) (p' : Nat) (s' : LogI.LS) (a' : AS LogI.A) (N' : Nat), LB W1 w' p' s' a' N' → 0 < ol → ∀ b, oA = some b → ¬ foot p' s' b.block := fun w' p' s' a' N' h h0 b hb hf => by
          have h1 := h.new _ hf
          obtain ⟨ad, e, hlt, -⟩ := HRD.out.2.2 h0
          rw [hb] at e
          injection e with e
          subst e
          omega
        have HRA := Lib.hid HRA
        have HNF := Lib.hid HNF
        go_wp2_with (first
          | (go_at_call 46; go_fit (nil_cancel _); rintro e wx ⟨rfl, rfl⟩)
          | (go_at_call 25; go_fit (nil_undo _); rintro e wx ⟨rfl, rfl⟩)
          | (go_at_call 26; go_fit (nil_redo _); rintro e wx ⟨rfl, rfl⟩)
          | (go_at_call 50; go_fit (nil_clear _); rintro e wx ⟨rfl, rfl⟩)
          | (go_at_call 33; go_fit (nil_begin _ _); rintro e wx ⟨rfl, rfl⟩)
          | (go_at_call 37; go_fit (nil_resume _); rintro e wx ⟨rfl, rfl⟩)
          | (go_at_call 40; go_fit (nil_add _ _); rintro e wx ⟨rfl, rfl⟩)
          | (go_at_call 43; go_fit (nil_commit _ _); rintro e wx ⟨rfl, rfl⟩)
          | (go_at_call 55; go_fit (nil_open _); rintro e wx ⟨rfl, rfl⟩)
          | (go_at_call 23; go_fit (nil_undos _); rintro e wx ⟨rfl, rfl⟩)
          | (go_at_call 24; go_fit (nil_redos _); rintro e wx ⟨rfl, rfl⟩)
          | (go_at_call 22; go_fit (nil_bound _); rintro e wx ⟨rfl, rfl⟩))
        go_region_held3 (fun w' => w'.cell? ⟨wr.heap.size, 2, none⟩ = some (.slice oA ol oc))
          (first | go_keep | exact m2 | exact n2)
          (first
            | (go_at_call 40; go_fit (add_b HTD.out.l oA ol oc ods' (HRA.out _ HTD.out.l.below) (by omega) (HNF.out _ _ _ _ _ HTD.out.l) rb HRB.out _ rfl); rintro e w3 ⟨rfl, hb⟩; obtain ⟨s1, ht1, hu1, hr1⟩ := HTD.out.stepL hb; have hbo := HBO.out.drew.upd hu1 (fun e => e.elim (fun e => by have h9 := HT.out.l.at_.lt _ e; omega) (fun e => by have h9 := HT.out.r.at_.lt _ e; omega)); obtain ⟨m0, m1, m2⟩ := Blk.three hbo; have HBO1 := Lib.hid hbo; have HT1 := Lib.hid ht1; have HFR := Lib.hid hr1; clear hb ht1 hu1 hbo hr1)
            | (go_at_call 40; go_fit (add_b HT1.out.r oA ol oc ods' (HRA.out _ HT1.out.r.below) (by omega) (HNF.out _ _ _ _ _ HT1.out.r) rb HRB.out _ rfl); rintro e w4 ⟨rfl, hb⟩; obtain ⟨t2, ht2, hu2, -⟩ := HT1.out.stepR hb; have hbo := HBO1.out.upd hu2 (fun e => e.elim (fun e => (HFR.out _ e).elim (fun e => by have h9 := HT.out.l.at_.lt _ e; omega) (fun e => by have h9 := HW9.out; simp at e; omega)) (fun e => by have h9 := HT.out.r.at_.lt _ e; omega)); obtain ⟨n0, n1, n2⟩ := Blk.three hbo; have HT2 := Lib.hid ht2; clear hb ht2 hu2 hbo))
        go_wp2_with (first
          | (go_at_call 23; go_fit (undos_b HT2.out.l 0 (by rw [HZ2.out.u]; rfl)); rintro e wx ⟨rfl, rfl⟩)
          | (go_at_call 24; go_fit (redos_b HT2.out.l 0 (by rw [HZ2.out.r]; rfl)); rintro e wx ⟨rfl, rfl⟩)
          | (go_at_call 55; go_fit (open_b HT2.out.l ob HOB.out); rintro e wx ⟨rfl, rfl⟩)
          | (go_at_call 55; go_fit (open_b HT2.out.r ob HOB.out); rintro e wx ⟨rfl, rfl⟩))
        go_roundg k1
        case measure => omega
        case rel => exact ⟨i + 1, by simp, by omega, _, _, _, _, HT2, HZ2, HN1⟩
      by_cases h4 : ok = 4
      · as_aux_lemma =>
        -- kind 4
        subst h4
        obtain ⟨ob, hob⟩ : ∃ ob, ob = (a.commit on).isOpen := ⟨_, rfl⟩
        have HOB := Lib.hid hob.symm
        clear hob
        have ob1 : (ob != ob) = false := by simp
        have HZ2 := Lib.hid (HZr.out.commit on)
        have HTA := Lib.hid (HT.out.later (below_one _ (.cells #[.int .i64 4, .int .i64 on, .slice oA ol oc] 59)))
        have HBO := Lib.hid (Blk.new wr 59 #[.int .i64 4, .int .i64 on, .slice oA ol oc])
        obtain ⟨rb, hrb⟩ : ∃ rb, rb = a.commitB := ⟨_, rfl⟩
        have HRB := Lib.hid hrb.symm
        clear hrb
        have rb1 : (rb == rb) = true := by simp
        have HTD := Lib.hid HTA.out.drew
        have hw9 : (wr.alloc (.cells #[.int .i64 4, .int .i64 on, .slice oA ol oc] 59)).heap.size = wr.heap.size + 1 := by simp
        have HW9 := Lib.hid hw9
        clear hw9
        go_wp2_with (first
          | (go_at_call 46; go_fit (nil_cancel _); rintro e wx ⟨rfl, rfl⟩)
          | (go_at_call 25; go_fit (nil_undo _); rintro e wx ⟨rfl, rfl⟩)
          | (go_at_call 26; go_fit (nil_redo _); rintro e wx ⟨rfl, rfl⟩)
          | (go_at_call 50; go_fit (nil_clear _); rintro e wx ⟨rfl, rfl⟩)
          | (go_at_call 33; go_fit (nil_begin _ _); rintro e wx ⟨rfl, rfl⟩)
          | (go_at_call 37; go_fit (nil_resume _); rintro e wx ⟨rfl, rfl⟩)
          | (go_at_call 40; go_fit (nil_add _ _); rintro e wx ⟨rfl, rfl⟩)
          | (go_at_call 43; go_fit (nil_commit _ _); rintro e wx ⟨rfl, rfl⟩)
          | (go_at_call 55; go_fit (nil_open _); rintro e wx ⟨rfl, rfl⟩)
          | (go_at_call 23; go_fit (nil_undos _); rintro e wx ⟨rfl, rfl⟩)
          | (go_at_call 24; go_fit (nil_redos _); rintro e wx ⟨rfl, rfl⟩)
          | (go_at_call 22; go_fit (nil_bound _); rintro e wx ⟨rfl, rfl⟩))
        go_region_held3 (fun w' => w'.cell? ⟨wr.heap.size, 1, none⟩ = some (.int .i64 on))
          (first | go_keep | exact m1 | exact n1)
          (first
            | (go_at_call 43; go_fit (commit_b HTD.out.l on rb HRB.out _ rfl); rintro e w3 ⟨rfl, hb⟩; obtain ⟨s1, ht1, hu1, hr1⟩ := HTD.out.stepL hb; have hbo := HBO.out.drew.upd hu1 (fun e => e.elim (fun e => by have h9 := HT.out.l.at_.lt _ e; omega) (fun e => by have h9 := HT.out.r.at_.lt _ e; omega)); obtain ⟨m0, m1, m2⟩ := Blk.three hbo; have HBO1 := Lib.hid hbo; have HT1 := Lib.hid ht1; have HFR := Lib.hid hr1; clear hb ht1 hu1 hbo hr1)
            | (go_at_call 43; go_fit (commit_b HT1.out.r on rb HRB.out _ rfl); rintro e w4 ⟨rfl, hb⟩; obtain ⟨t2, ht2, hu2, -⟩ := HT1.out.stepR hb; have hbo := HBO1.out.upd hu2 (fun e => e.elim (fun e => (HFR.out _ e).elim (fun e => by have h9 := HT.out.l.at_.lt _ e; omega) (fun e => by have h9 := HW9.out; simp at e; omega)) (fun e => by have h9 := HT.out.r.at_.lt _ e; omega)); obtain ⟨n0, n1, n2⟩ := Blk.three hbo; have HT2 := Lib.hid ht2; clear hb ht2 hu2 hbo))
        go_wp2_with (first
          | (go_at_call 23; go_fit (undos_b HT2.out.l 0 (by rw [HZ2.out.u]; rfl)); rintro e wx ⟨rfl, rfl⟩)
          | (go_at_call 24; go_fit (redos_b HT2.out.l 0 (by rw [HZ2.out.r]; rfl)); rintro e wx ⟨rfl, rfl⟩)
          | (go_at_call 55; go_fit (open_b HT2.out.l ob HOB.out); rintro e wx ⟨rfl, rfl⟩)
          | (go_at_call 55; go_fit (open_b HT2.out.r ob HOB.out); rintro e wx ⟨rfl, rfl⟩))
        go_roundg k1
        case measure => omega
        case rel => exact ⟨i + 1, by simp, by omega, _, _, _, _, HT2, HZ2, HN0⟩
      by_cases h5 : ok = 5
      · as_aux_lemma =>
        -- kind 5
        subst h5
        obtain ⟨ob, hob⟩ : ∃ ob, ob = (a.cancel).isOpen := ⟨_, rfl⟩
        have HOB := Lib.hid hob.symm
        clear hob
        have ob1 : (ob != ob) = false := by simp
        have HZ2 := Lib.hid (HZr.out.cancel)
        have HTA := Lib.hid (HT.out.later (below_one _ (.cells #[.int .i64 5, .int .i64 on, .slice oA ol oc] 59)))
        have HBO := Lib.hid (Blk.new wr 59 #[.int .i64 5, .int .i64 on, .slice oA ol oc])
        obtain ⟨rb, hrb⟩ : ∃ rb, rb = a.isOpen := ⟨_, rfl⟩
        have HRB := Lib.hid hrb.symm
        clear hrb
        have rb1 : (rb == rb) = true := by simp
        have hw9 : (wr.alloc (.cells #[.int .i64 5, .int .i64 on, .slice oA ol oc] 59)).heap.size = wr.heap.size + 1 := by simp
        have HW9 := Lib.hid hw9
        clear hw9
        have hdd : decide (a.cancelL = a.cancelL) = true := by simp
        go_wp2_with (first
          | (go_at_call 46; go_fit (nil_cancel _); rintro e wx ⟨rfl, rfl⟩)
          | (go_at_call 25; go_fit (nil_undo _); rintro e wx ⟨rfl, rfl⟩)
          | (go_at_call 26; go_fit (nil_redo _); rintro e wx ⟨rfl, rfl⟩)
          | (go_at_call 50; go_fit (nil_clear _); rintro e wx ⟨rfl, rfl⟩)
          | (go_at_call 33; go_fit (nil_begin _ _); rintro e wx ⟨rfl, rfl⟩)
          | (go_at_call 37; go_fit (nil_resume _); rintro e wx ⟨rfl, rfl⟩)
          | (go_at_call 40; go_fit (nil_add _ _); rintro e wx ⟨rfl, rfl⟩)
          | (go_at_call 43; go_fit (nil_commit _ _); rintro e wx ⟨rfl, rfl⟩)
          | (go_at_call 55; go_fit (nil_open _); rintro e wx ⟨rfl, rfl⟩)
          | (go_at_call 23; go_fit (nil_undos _); rintro e wx ⟨rfl, rfl⟩)
          | (go_at_call 24; go_fit (nil_redos _); rintro e wx ⟨rfl, rfl⟩)
          | (go_at_call 22; go_fit (nil_bound _); rintro e wx ⟨rfl, rfl⟩)
          | (go_at_call 46; go_fit (cancel_b HTA.out.l rb HRB.out _ rfl _ rfl); rintro e w3 ⟨v3, rfl, s3, hl3, hu3, hr3, ho3, hf3⟩; obtain ⟨A3, c3, hv3, -⟩ := ho3.len; have HT1 := Lib.hid (HTA.out.stepLs hl3 hu3 hr3); have HO3 := Lib.hid ho3; have HF3 := Lib.hid hf3; subst hv3; clear hl3 hu3 hr3 ho3 hf3)
          | (go_at_call 46; go_fit (cancel_b HT1.out.r rb HRB.out _ rfl _ rfl); rintro e w4 ⟨v4, rfl, t4, hl4, hu4, hr4, ho4, hf4⟩; obtain ⟨A4, c4, hv4, -⟩ := ho4.len; have HO3b := Lib.hid (OwnS.upd HO3.out hu4 (fun k hk hx => by have h8 := (HF3.out k hk).1; have h9 := HTA.out.r.at_.lt k hx; omega)); have HT2 := Lib.hid (HT1.out.stepRs hl4 hu4 hr4); have HO4 := Lib.hid ho4; subst hv4; clear hl4 hu4 hr4 ho4 hf4)
          | (go_at_call 27; refine (same _ _ _ _ _ _ _ a.cancelL a.cancelL (OwnD.reads HO3b.out rfl) (OwnD.reads HO4.out rfl) (by have := cancelL_len HT.out.l.inv; omega)).mono ?_; rintro e w5 ⟨rfl, hb⟩; have HT3 := Lib.hid (HT2.out.later hb); clear hb)
          | (go_at_call 23; go_fit (undos_b HT3.out.l 0 (by rw [HZ2.out.u]; rfl)); rintro e wx ⟨rfl, rfl⟩)
          | (go_at_call 24; go_fit (redos_b HT3.out.l 0 (by rw [HZ2.out.r]; rfl)); rintro e wx ⟨rfl, rfl⟩)
          | (go_at_call 55; go_fit (open_b HT3.out.l ob HOB.out); rintro e wx ⟨rfl, rfl⟩)
          | (go_at_call 55; go_fit (open_b HT3.out.r ob HOB.out); rintro e wx ⟨rfl, rfl⟩))
        go_roundg k1
        case measure => omega
        case rel => exact ⟨i + 1, by simp, by omega, _, _, _, _, HT3, HZ2, HN0⟩
      as_aux_lemma =>
        -- kind o
        have b1 : (ok == 1) = false := by rw [beq_eq_false_iff_ne]; exact h1
        have b2 : (ok == 2) = false := by rw [beq_eq_false_iff_ne]; exact h2
        have b3 : (ok == 3) = false := by rw [beq_eq_false_iff_ne]; exact h3
        have b4 : (ok == 4) = false := by rw [beq_eq_false_iff_ne]; exact h4
        have b5 : (ok == 5) = false := by rw [beq_eq_false_iff_ne]; exact h5
        clear h1 h2 h3 h4 h5
        obtain ⟨ob, hob⟩ : ∃ ob, ob = (a).isOpen := ⟨_, rfl⟩
        have HOB := Lib.hid hob.symm
        clear hob
        have ob1 : (ob != ob) = false := by simp
        have HTA := Lib.hid (HT.out.later (below_one _ (.cells #[.int .i64 ok, .int .i64 on, .slice oA ol oc] 59)))
        go_wp2_with (first
          | (go_at_call 46; go_fit (nil_cancel _); rintro e wx ⟨rfl, rfl⟩)
          | (go_at_call 25; go_fit (nil_undo _); rintro e wx ⟨rfl, rfl⟩)
          | (go_at_call 26; go_fit (nil_redo _); rintro e wx ⟨rfl, rfl⟩)
          | (go_at_call 50; go_fit (nil_clear _); rintro e wx ⟨rfl, rfl⟩)
          | (go_at_call 33; go_fit (nil_begin _ _); rintro e wx ⟨rfl, rfl⟩)
          | (go_at_call 37; go_fit (nil_resume _); rintro e wx ⟨rfl, rfl⟩)
          | (go_at_call 40; go_fit (nil_add _ _); rintro e wx ⟨rfl, rfl⟩)
          | (go_at_call 43; go_fit (nil_commit _ _); rintro e wx ⟨rfl, rfl⟩)
          | (go_at_call 55; go_fit (nil_open _); rintro e wx ⟨rfl, rfl⟩)
          | (go_at_call 23; go_fit (nil_undos _); rintro e wx ⟨rfl, rfl⟩)
          | (go_at_call 24; go_fit (nil_redos _); rintro e wx ⟨rfl, rfl⟩)
          | (go_at_call 22; go_fit (nil_bound _); rintro e wx ⟨rfl, rfl⟩)
          | (go_at_call 23; go_fit (undos_b HTA.out.l 0 (by rw [HZr.out.u]; rfl)); rintro e wx ⟨rfl, rfl⟩)
          | (go_at_call 24; go_fit (redos_b HTA.out.l 0 (by rw [HZr.out.r]; rfl)); rintro e wx ⟨rfl, rfl⟩)
          | (go_at_call 55; go_fit (open_b HTA.out.l ob HOB.out); rintro e wx ⟨rfl, rfl⟩)
          | (go_at_call 55; go_fit (open_b HTA.out.r ob HOB.out); rintro e wx ⟨rfl, rfl⟩))
        go_roundg k1
        case measure => omega
        case rel => exact ⟨i + 1, by simp, by omega, _, _, _, _, HTA, HZr, HN0⟩
end Log
end Go.Proofs.YtkpcnfchhnfpoaaDoor
