/- The document's Merge, walked by cases. Printed by a program of this claim. -/
import Derived.Test.YtkpcnfchhnfpoaaDoorDocM
import Derived.Test.YtkpcnfchhnfpoaaDoorLists
import Derived.Handy
import Derived.WalkSpells
import Derived.WalkLawsBesides
import Derived.Deep.RegionHeld3
import Derived.LoopTactic
import Derived.BigQuiet
import Derived.IntWalk
import Derived.StillTailTactics
set_option linter.unusedVariables false
namespace Go.Proofs.YtkpcnfchhnfpoaaDoor
open Go.RowKit Go.Proofs.YtkpcnfchhnfpoaaDoorW.PrintWords Go.Proofs.YtkpcnfchhnfpoaaDoor.Sep
namespace Log
set_option maxHeartbeats 6400000
set_option maxRecDepth 100000
theorem dm_info5 : (Tryd.prog.info? 5).map (fun i => (i.zero, i.size, i.bytes)) = some (some (.int .u8 0), 1, 1) := by kernel_rfl
theorem dm_info4 : (Tryd.prog.info? 4).map (fun i => (i.zero, i.size, i.bytes)) = some (some (.bool false), 1, 1) := by kernel_rfl
theorem dm_make5 (E : Nat) (hE : E ≤ 100000000000000) (w : World) : (Instr.makeSlice 69 (.int .i64 (E : Int)) (.int .i64 (E : Int))).run Tryd.prog w = .ok (.slice (some ⟨w.heap.size, 0, none⟩) E E) (w.alloc (.cells (madeCells #[.int .u8 0] E) 5)) := by
  obtain ⟨i, hi, h0, h1, h2⟩ := info_parts dm_info5
  have h := run_make (P := Tryd.prog) w 69 5 i _ Tryd.underlying69 hi h0 .i64 .i64 (E : Int) (E : Int) (by omega) (by omega) (by rw [h2]; omega) (by omega)
  rw [h1, Int.toNat_natCast, Nat.mul_one] at h
  exact h
theorem dm_make4 (E : Nat) (hE : E ≤ 100000000000000) (w : World) : (Instr.makeSlice 86 (.int .i64 (E : Int)) (.int .i64 (E : Int))).run Tryd.prog w = .ok (.slice (some ⟨w.heap.size, 0, none⟩) E E) (w.alloc (.cells (madeCells #[.bool false] E) 4)) := by
  obtain ⟨i, hi, h0, h1, h2⟩ := info_parts dm_info4
  have h := run_make (P := Tryd.prog) w 86 4 i _ Tryd.underlying86 hi h0 .i64 .i64 (E : Int) (E : Int) (by omega) (by omega) (by rw [h2]; omega) (by omega)
  rw [h1, Int.toNat_natCast, Nat.mul_one] at h
  exact h
theorem dm_index (s : ByteArray) (j : Nat) (h : j < s.size) (w : World) : (Instr.index 9 (.string s) (.int .i64 (j : Int))).run Tryd.prog w = .ok (.int .u8 (bat s j)) w := by
  rw [run_index_string w 9 s .i64 _ Tryd.underlying9, dif_pos ⟨by omega, by omega⟩, bat_of h]
  rfl
theorem b3 {w : World} {g : Nat} {x y z : Value} {t : TypeId} (h : Blk w g t #[x, y, z]) : w.cell? ⟨g, 0, none⟩ = some x ∧ w.cell? ⟨g, 1, none⟩ = some y ∧ w.cell? ⟨g, 2, none⟩ = some z := ⟨h.cell 0, h.cell 1, h.cell 2⟩
theorem Blk.eq_' {w : World} {g : Nat} {t : TypeId} {cs cs' : Array Value} (h : Blk w g t cs) (e : cs = cs') : Blk w g t cs' := e ▸ h
theorem set3 {w : World} {g : Nat} {a b c : Value} {t : TypeId} (h : Blk w g t #[a, b, c]) (n : Nat) (x y z : Value) :
    ((w.drewN n).setCell ⟨g, 0, none⟩ x).cell? ⟨g, 0, none⟩ = some x ∧ (((w.drewN n).setCell ⟨g, 0, none⟩ x).setCell ⟨g, 1, none⟩ y).cell? ⟨g, 1, none⟩ = some y ∧ ((((w.drewN n).setCell ⟨g, 0, none⟩ x).setCell ⟨g, 1, none⟩ y).setCell ⟨g, 2, none⟩ z).cell? ⟨g, 2, none⟩ = some z :=
  ⟨(b3 (Blk.eq_' ((h.drewN n).set_ 0 x) rfl)).1, (b3 (Blk.eq_' (((h.drewN n).set_ 0 x).set_ 1 y) rfl)).2.1, (b3 (Blk.eq_' ((((h.drewN n).set_ 0 x).set_ 1 y).set_ 2 z) rfl)).2.2⟩
theorem adds (s t : ByteArray) (hs : s.size ≤ 3000000000000) (ht : t.size ≤ 3000000000000) (w : World) : (binOp .add 9 (.string s) (.string t)).run Tryd.prog w = .ok (.string (s ++ t)) w := by
  rw [binOp_string_add]
  exact run_string_add_sum w _ _ (by omega)
def DocPost (w : World) (n X Y : Nat) (ao ai bo bi : ByteArray) (e : Ending) (w' : World) : Prop := ((agr X Y ai bo ∧ e = .returned (.tuple #[dagg (doc n X Y ao ai bo bi), .bool true])) ∨ (¬ agr X Y ai bo ∧ e = .returned (.tuple #[dagg D0, .bool false]))) ∧ Below w.heap.size w w'
theorem dm_eq1 (w : World) (x y d : Nat) (hx : x < 9223372036854775808) (hy : y < 9223372036854775808) (ao ai bo bi : ByteArray) (hsi : ai.size ≤ 1000000000000) (hso : bo.size ≤ 1000000000000) (hsao : ao.size ≤ 1000000000000) (hsbi : bi.size ≤ 1000000000000) (he : y = x) (hd : d = 0) (hf : d ≤ ai.size) (hc : ai.size < d + bo.size) :
    Calls Tryd.prog 15 #[.agg #[.int .i64 (x : Int), .string ao, .string ai], .agg #[.int .i64 (y : Int), .string bo, .string bi]] w (DocPost w x 0 d ao ai bo bi) := by
  have p1 : decide ((x : Int) < 0) = false := by first | (simp; done) | (simp; omega)
  have p2 : decide ((y : Int) < 0) = false := by first | (simp; done) | (simp; omega)
  have g1 : decide (x < y) = false := by first | (simp; done) | (simp; omega)
  have g2 : decide (y < x) = false := by first | (simp; done) | (simp; omega)
  have g1i : decide ((x : Int) < (y : Int)) = false := by first | (simp; done) | (simp; omega)
  have g2i : decide ((y : Int) < (x : Int)) = false := by first | (simp; done) | (simp; omega)
  have z1 : IntKind.i64.wrap ((y : Int) - (x : Int)) = (d : Int) := by rw [IntKind.wrap_i64]; omega
  have z2 : IntKind.i64.wrap ((x : Int) - (x : Int)) = 0 := by rw [IntKind.wrap_i64]; omega
  have z2b : IntKind.i64.wrap 0 = 0 := by rw [IntKind.wrap_i64]; omega
  have k1 : decide (ai.size < d + bo.size) = true := by first | (simp; done) | (simp; omega)
  have k1i : decide ((ai.size : Int) < (d : Int) + (bo.size : Int)) = true := by first | (simp; done) | (simp; omega)
  have m5 := dm_make5 (d + bo.size) (by omega)
  have m4 := dm_make4 (d + bo.size) (by omega)
  simp only [Int.natCast_add] at m5 m4
  have HE : Hid ((d + bo.size) = max (0 + ai.size) (d + bo.size)) := Lib.hid (by omega)
  have HC := Lib.hid hc
  have HF := Lib.hid hf
  have HD := Lib.hid hd
  have HEE := Lib.hid he
  clear hc hd he
  go_enter Tryd.func15, Tryd.ntmps15
  go_wp2
  go_quiet (fail)
  go_wp2
  have HST := Lib.hid (DM.start w x y ao ai bo bi (d + bo.size) nq)
  obtain ⟨ga, hga⟩ : ∃ ga, ga = w.heap.size := ⟨_, rfl⟩
  obtain ⟨gb, hgb⟩ : ∃ gb, gb = w.heap.size + 1 := ⟨_, rfl⟩
  obtain ⟨gr, hgr⟩ : ∃ gr, gr = w.heap.size + 1 + 1 := ⟨_, rfl⟩
  obtain ⟨gm, hgm⟩ : ∃ gm, gm = w.heap.size + 1 + 1 + 1 := ⟨_, rfl⟩
  obtain ⟨gk, hgk⟩ : ∃ gk, gk = w.heap.size + 1 + 1 + 1 + 1 := ⟨_, rfl⟩
  rw [← hgk, ← hgm, ← hgr, ← hgb, ← hga] at HST
  rw [← hgk, ← hgm, ← hgr, ← hgb, ← hga]
  have nkm : ¬ gk = gm := by omega
  have nmk : ¬ gm = gk := by omega
  have nra : ¬ gr = ga := by omega
  clear hgk hgm hgr hgb hga m4 m5 z1 z2 z2b g1 g2 g1i g2i k1 k1i p1 p2 
  go_loopg [12] ai.size (fun k v12 w' => ∃ i : Nat, v12 = .int .i64 i ∧ i + k = ai.size ∧ Hid (DM w w' ga gb gr gm gk x y ao ai bo bi (d + bo.size) (bt1 0 ai i) (kn1 0 i)))
  case atStart =>
    refine ⟨0, rfl, by omega, Lib.hid (HST.out.eqv (fun k hk => ?_) (fun k hk => ?_))⟩
    · exact if_neg (by omega)
    · exact decide_eq_false (by omega)
  case round =>
    obtain ⟨i, rfl, hik, HM⟩ := hrel
    obtain ⟨a0, a1, a2⟩ := b3 HM.out.ba
    obtain ⟨c0, c1, c2⟩ := b3 HM.out.bb
    cases gk with
    | zero =>
      have e1 : decide (i < ai.size) = false := by simp; omega
      obtain rfl : i = ai.size := by omega
      go_wp2
      clear a0 a1 a2 c0 c1 c2 e1
      go_loopg [13] bo.size (fun k v13 w' => ∃ i : Nat, v13 = .int .i64 i ∧ i + k = bo.size ∧ Hid (DM w w' ga gb gr gm gk x y ao ai bo bi (d + bo.size) (btw 0 d ai bo i) (kn1 0 ai.size)) ∧ Hid (∀ j, j < i → 0 ≤ d + j → d + j < 0 + ai.size → bat bo j = bat ai (d + j - 0)))
      case atStart =>
        refine ⟨0, rfl, by omega, Lib.hid (HM.out.eqv (fun k hk => btw_zero _ _ _ _ _) (fun k hk => rfl)), Lib.hid (fun j hj => by omega)⟩
      case round =>
        obtain ⟨i, rfl, hik2, HM, HA⟩ := hrel
        obtain ⟨a0, a1, a2⟩ := b3 HM.out.ba
        obtain ⟨c0, c1, c2⟩ := b3 HM.out.bb
        cases gk with
        | zero =>
          have e1 : decide (i < bo.size) = false := by simp; omega
          obtain rfl : i = bo.size := by omega
          as_aux_lemma =>
            have hagr : agr 0 d ai bo := HA.out
            have hnr : w.heap.size ≤ gr := by have h1 := HM.out.new; omega
            obtain ⟨r0, r1, r2⟩ := b3 HM.out.br
            have fr := HM.out.br.frozen
            have q0 := fun n x => (set3 HM.out.br n x x x).1
            have q1 := fun n x y => (set3 HM.out.br n x y y).2.1
            have q2 := fun n x y z => (set3 HM.out.br n x y z).2.2
            obtain ⟨t1, ht1⟩ : ∃ t1, t1 = bo.extract 0 0 := ⟨_, rfl⟩
            obtain ⟨t2, ht2⟩ : ∃ t2, t2 = bo.extract (0 + ai.size - d) bo.size := ⟨_, rfl⟩
            obtain ⟨t3, ht3⟩ : ∃ t3, t3 = ai.extract 0 d := ⟨_, rfl⟩
            obtain ⟨t4, ht4⟩ : ∃ t4, t4 = ai.extract (d + bo.size - 0) ai.size := ⟨_, rfl⟩
            have hXY : 0 = 0 ∨ d = 0 := by omega
            have hX : 0 ≤ bo.size := by omega
            have hY : d ≤ ai.size := by omega
            have s1 : t1.size = 0 := by rw [ht1]; exact size1 hX
            have s3 : t3.size = d := by rw [ht3]; exact size1 hY
            have s2 : t2.size = (d + bo.size) - ai.size := by rw [ht2]; have h := size2 (X := 0) (Y := d) (ai := ai) (bo := bo) hY HE.out; omega
            have s4 : t4.size = (d + bo.size) - (d + bo.size) := by rw [ht4]; have h := size2 (X := d) (Y := 0) (E := (d + bo.size)) (ai := bo) (bo := ai) hX (by have := HE.out; omega); omega
            have hs1 : ∀ w, (Instr.slice 69 (.slice (some ⟨gm, 0, none⟩) (d + bo.size) (d + bo.size)) none (some (.int .i64 0)) none).run Tryd.prog w = .ok (.slice (some ⟨gm, 0, none⟩) 0 (d + bo.size)) w := fun w => head_slice gm (d + bo.size) 0 (by omega) w
            have hs3 : ∀ w, (Instr.slice 69 (.slice (some ⟨gm, 0, none⟩) (d + bo.size) (d + bo.size)) none (some (.int .i64 (d : Int))) none).run Tryd.prog w = .ok (.slice (some ⟨gm, 0, none⟩) d (d + bo.size)) w := fun w => head_slice gm (d + bo.size) d (by omega) w
            obtain ⟨o2, hs2, ho2⟩ := tail_slice gm (d + bo.size) ai.size (by have := HE.out; omega)
            obtain ⟨o4, hs4, ho4⟩ := tail_slice gm (d + bo.size) (d + bo.size) (by have := HE.out; omega)
            simp only [Int.natCast_add] at hs4
            obtain ⟨n2, hn2⟩ : ∃ n2, n2 = (d + bo.size) - ai.size := ⟨_, rfl⟩
            obtain ⟨n4, hn4⟩ : ∃ n4, n4 = (d + bo.size) - (d + bo.size) := ⟨_, rfl⟩
            rw [← hn2] at s2 hs2
            rw [← hn4] at s4 hs4
            have cv1 := conv wr gm 0 _ (d + bo.size) t1 s1 (HM.out.bytes 0 t1 (by rw [ht1]; exact read1 hXY hX hY HE.out))
            have cv2 := conv wr gm o2 _ n2 t2 s2 (HM.out.bytes o2 t2 (by rw [ht2]; exact read2 hXY hX hY HE.out o2 (fun h => by have := ho2 (by omega); omega)))
            have cv3 := conv wr gm 0 _ (d + bo.size) t3 s3 (HM.out.bytes 0 t3 (by rw [ht3]; exact read3 hXY hX hY HE.out))
            have cv4 := conv wr gm o4 _ n4 t4 s4 (HM.out.bytes o4 t4 (by rw [ht4]; exact read4 hXY hX hY HE.out o4 (fun h => by have := ho4 (by omega); omega)))
            have cw3 := fun n => conv (wr.drewN n) gm 0 _ (d + bo.size) t3 s3 (((HM.out.drewN n).bytes 0 t3 (by rw [ht3]; exact read3 hXY hX hY HE.out)))
            have cw4 := fun n => conv (wr.drewN n) gm o4 _ n4 t4 s4 ((HM.out.drewN n).bytes o4 t4 (by rw [ht4]; exact read4 hXY hX hY HE.out o4 (fun h => by have := ho4 (by omega); omega)))
            have HT1 := Lib.hid ht1
            have HT2 := Lib.hid ht2
            have HT3 := Lib.hid ht3
            have HT4 := Lib.hid ht4
            have l1 : t1.size ≤ 1000000000000 := by omega
            have l2 : t2.size ≤ 1000000000000 := by omega
            have l3 : t3.size ≤ 1000000000000 := by omega
            have l4 : t4.size ≤ 1000000000000 := by omega
            clear ht1 ht2 ht3 ht4 s1 s2 s3 s4 hn2 hn4 ho2 ho4 hXY hX hY hik hik2
            have ad1 := adds t1 ao (by omega) (by omega)
            have ad2 := adds (t1 ++ ao) t2 (by rw [ByteArray.size_append]; omega) (by omega)
            have ad3 := adds t3 bi (by omega) (by omega)
            have ad4 := adds (t3 ++ bi) t4 (by rw [ByteArray.size_append]; omega) (by omega)
            go_wp2
            go_quiet (fail)
            go_wp2
            go_quiet (fail)
            go_wp2
            (try simp only [Exit.inBlock, Exit.then])
            refine bodyPost_ret (by simp [results, Tryd.results15, go_sem, q0, q1, q2]; try rfl) rfl ?_
            refine ⟨.inl ⟨hagr, ?_⟩, ?_⟩
            · rw [HT1.out, HT2.out, HT3.out, HT4.out]
              rfl
            · repeat' (first | with_reducible exact HM.out.below | with_reducible refine Below.drewN' ?_ _ | with_reducible refine Below.setCell ?_ hnr _)
        | succ k1 =>
          have hi : i < bo.size := by omega
          have e1 : decide (i < bo.size) = true := by simp [hi]
          have hidx := dm_index bo i hi
          have HLT : Hid (d + i < (d + bo.size)) := Lib.hid (by have := HE.out; omega)
          have xb := HM.out.cellB (d + i) HLT.out
          have xk := HM.out.cellK (d + i) HLT.out
          have fb := HM.out.frozenB
          have fk := HM.out.frozenK
          have hlt := HLT.out
          obtain ⟨v, hv⟩ : ∃ v, v = bat bo i := ⟨_, rfl⟩
          rw [← hv] at hidx
          have HV := Lib.hid hv
          clear hv
          obtain ⟨r0, r1, r2⟩ := b3 HM.out.br
          have fr := HM.out.br.frozen
          have hnr : w.heap.size ≤ gr := by have h1 := HM.out.new; omega
          by_cases hk : 0 ≤ d + i ∧ d + i < 0 + ai.size
          · have hbv : btw 0 d ai bo i (d + i) = bat ai (d + i - 0) := by
              have := btw_at 0 d i ai bo hk.1 hk.2
              skip
              exact this
            rw [hbv] at xb
            rw [show kn1 0 ai.size (d + i) = true from decide_eq_true (by omega)] at xk
            obtain ⟨u, hu⟩ : ∃ u, u = bat ai (d + i - 0) := ⟨_, rfl⟩
            rw [← hu] at xb
            have HU := Lib.hid hu
            have HK := Lib.hid hk
            clear hu hbv hk
            by_cases huv : u = v
            · subst huv
              have n1 : (u != u) = false := by simp
              as_aux_lemma =>
                go_wp2
                go_quiet (fail)
                go_wp2
                go_roundg k1
                case measure => omega
                case rel =>
                  refine ⟨i + 1, by simp, by omega, Lib.hid ?_, Lib.hid ?_⟩
                  · refine (HM.out.drewN _).setB (d + i) _ (fun k hk => ?_)
                    rw [btw_next, HV.out]
                  · intro j hj h1 h2
                    by_cases hji : j = i
                    · subst hji
                      rw [← HV.out, ← HU.out]
                    · exact HA.out j (by omega) h1 h2
            · have n1 : (u != v) = true := by simp [huv]
              have n2 : decide (u = v) = false := by simp [huv]
              have HUV := Lib.hid huv
              clear huv
              have q0 := fun n x => (set3 HM.out.br n x x x).1
              have q1 := fun n x y => (set3 HM.out.br n x y y).2.1
              have q2 := fun n x y z => (set3 HM.out.br n x y z).2.2
              as_aux_lemma =>
                go_wp2
                go_quiet (fail)
                go_wp2
                (try simp only [Exit.inBlock, Exit.then])
                refine bodyPost_ret (by simp [results, Tryd.results15, go_sem, q0, q1, q2]; try rfl) rfl ?_
                refine ⟨.inr ⟨fun h => HUV.out ?_, rfl⟩, ?_⟩
                · rw [HU.out, HV.out]
                  exact (h i (by omega) HK.out.1 HK.out.2).symm
                · repeat' (first | with_reducible exact HM.out.below | with_reducible refine Below.drewN' ?_ _ | with_reducible refine Below.setCell ?_ hnr _)
          · rw [show kn1 0 ai.size (d + i) = false from decide_eq_false (by omega)] at xk
            generalize btw 0 d ai bo i (d + i) = u at xb
            have HK := Lib.hid hk
            clear hk
            as_aux_lemma =>
              go_wp2
              go_quiet (fail)
              go_wp2
              go_roundg k1
              case measure => omega
              case rel =>
                refine ⟨i + 1, by simp, by omega, Lib.hid ?_, Lib.hid ?_⟩
                · refine (HM.out.drewN _).setB (d + i) _ (fun k hk => ?_)
                  rw [btw_next, HV.out]
                · intro j hj h1 h2
                  by_cases hji : j = i
                  · subst hji
                    exact absurd ⟨h1, h2⟩ HK.out
                  · exact HA.out j (by omega) h1 h2
    | succ k1 =>
      have hi : i < ai.size := by omega
      have e1 : decide (i < ai.size) = true := by simp [hi]
      have hidx := dm_index ai i hi
      have HLT : Hid (i < (d + bo.size)) := Lib.hid (by have := HE.out; omega)
      have xb := HM.out.cellB (i) HLT.out
      have xk := HM.out.cellK (i) HLT.out
      have fb := HM.out.frozenB
      have fk := HM.out.frozenK
      have hlt := HLT.out
      obtain ⟨v, hv⟩ : ∃ v, v = bat ai i := ⟨_, rfl⟩
      rw [← hv] at hidx
      have HV := Lib.hid hv
      clear hv
      generalize bt1 0 ai i (i) = ub at xb
      generalize kn1 0 i (i) = uk at xk
      go_wp2
      go_roundg k1
      case measure => omega
      case rel =>
        refine ⟨i + 1, by simp, by omega, Lib.hid ?_⟩
        refine (HM.out.setB (i) _ (fun k hk => ?_)).setK (i) true (fun k hk => ?_)
        · rw [bt1_next, HV.out, Nat.zero_add]
        · rw [kn1_next, Nat.zero_add]
theorem dm_eq2 (w : World) (x y d : Nat) (hx : x < 9223372036854775808) (hy : y < 9223372036854775808) (ao ai bo bi : ByteArray) (hsi : ai.size ≤ 1000000000000) (hso : bo.size ≤ 1000000000000) (hsao : ao.size ≤ 1000000000000) (hsbi : bi.size ≤ 1000000000000) (he : y = x) (hd : d = 0) (hf : d ≤ ai.size) (hc : d + bo.size ≤ ai.size) :
    Calls Tryd.prog 15 #[.agg #[.int .i64 (x : Int), .string ao, .string ai], .agg #[.int .i64 (y : Int), .string bo, .string bi]] w (DocPost w x 0 d ao ai bo bi) := by
  have p1 : decide ((x : Int) < 0) = false := by first | (simp; done) | (simp; omega)
  have p2 : decide ((y : Int) < 0) = false := by first | (simp; done) | (simp; omega)
  have g1 : decide (x < y) = false := by first | (simp; done) | (simp; omega)
  have g2 : decide (y < x) = false := by first | (simp; done) | (simp; omega)
  have g1i : decide ((x : Int) < (y : Int)) = false := by first | (simp; done) | (simp; omega)
  have g2i : decide ((y : Int) < (x : Int)) = false := by first | (simp; done) | (simp; omega)
  have z1 : IntKind.i64.wrap ((y : Int) - (x : Int)) = (d : Int) := by rw [IntKind.wrap_i64]; omega
  have z2 : IntKind.i64.wrap ((x : Int) - (x : Int)) = 0 := by rw [IntKind.wrap_i64]; omega
  have z2b : IntKind.i64.wrap 0 = 0 := by rw [IntKind.wrap_i64]; omega
  have k1 : decide (ai.size < d + bo.size) = false := by first | (simp; done) | (simp; omega)
  have k1i : decide ((ai.size : Int) < (d : Int) + (bo.size : Int)) = false := by first | (simp; done) | (simp; omega)
  have m5 := dm_make5 ai.size (by omega)
  have m4 := dm_make4 ai.size (by omega)
  have HE : Hid (ai.size = max (0 + ai.size) (d + bo.size)) := Lib.hid (by omega)
  have HC := Lib.hid hc
  have HF := Lib.hid hf
  have HD := Lib.hid hd
  have HEE := Lib.hid he
  clear hc hd he
  go_enter Tryd.func15, Tryd.ntmps15
  go_wp2
  go_quiet (fail)
  go_wp2
  have HST := Lib.hid (DM.start w x y ao ai bo bi ai.size nq)
  obtain ⟨ga, hga⟩ : ∃ ga, ga = w.heap.size := ⟨_, rfl⟩
  obtain ⟨gb, hgb⟩ : ∃ gb, gb = w.heap.size + 1 := ⟨_, rfl⟩
  obtain ⟨gr, hgr⟩ : ∃ gr, gr = w.heap.size + 1 + 1 := ⟨_, rfl⟩
  obtain ⟨gm, hgm⟩ : ∃ gm, gm = w.heap.size + 1 + 1 + 1 := ⟨_, rfl⟩
  obtain ⟨gk, hgk⟩ : ∃ gk, gk = w.heap.size + 1 + 1 + 1 + 1 := ⟨_, rfl⟩
  rw [← hgk, ← hgm, ← hgr, ← hgb, ← hga] at HST
  rw [← hgk, ← hgm, ← hgr, ← hgb, ← hga]
  have nkm : ¬ gk = gm := by omega
  have nmk : ¬ gm = gk := by omega
  have nra : ¬ gr = ga := by omega
  clear hgk hgm hgr hgb hga m4 m5 z1 z2 z2b g1 g2 g1i g2i k1 k1i p1 p2 
  go_loopg [12] ai.size (fun k v12 w' => ∃ i : Nat, v12 = .int .i64 i ∧ i + k = ai.size ∧ Hid (DM w w' ga gb gr gm gk x y ao ai bo bi ai.size (bt1 0 ai i) (kn1 0 i)))
  case atStart =>
    refine ⟨0, rfl, by omega, Lib.hid (HST.out.eqv (fun k hk => ?_) (fun k hk => ?_))⟩
    · exact if_neg (by omega)
    · exact decide_eq_false (by omega)
  case round =>
    obtain ⟨i, rfl, hik, HM⟩ := hrel
    obtain ⟨a0, a1, a2⟩ := b3 HM.out.ba
    obtain ⟨c0, c1, c2⟩ := b3 HM.out.bb
    cases gk with
    | zero =>
      have e1 : decide (i < ai.size) = false := by simp; omega
      obtain rfl : i = ai.size := by omega
      go_wp2
      clear a0 a1 a2 c0 c1 c2 e1
      go_loopg [13] bo.size (fun k v13 w' => ∃ i : Nat, v13 = .int .i64 i ∧ i + k = bo.size ∧ Hid (DM w w' ga gb gr gm gk x y ao ai bo bi ai.size (btw 0 d ai bo i) (kn1 0 ai.size)) ∧ Hid (∀ j, j < i → 0 ≤ d + j → d + j < 0 + ai.size → bat bo j = bat ai (d + j - 0)))
      case atStart =>
        refine ⟨0, rfl, by omega, Lib.hid (HM.out.eqv (fun k hk => btw_zero _ _ _ _ _) (fun k hk => rfl)), Lib.hid (fun j hj => by omega)⟩
      case round =>
        obtain ⟨i, rfl, hik2, HM, HA⟩ := hrel
        obtain ⟨a0, a1, a2⟩ := b3 HM.out.ba
        obtain ⟨c0, c1, c2⟩ := b3 HM.out.bb
        cases gk with
        | zero =>
          have e1 : decide (i < bo.size) = false := by simp; omega
          obtain rfl : i = bo.size := by omega
          as_aux_lemma =>
            have hagr : agr 0 d ai bo := HA.out
            have hnr : w.heap.size ≤ gr := by have h1 := HM.out.new; omega
            obtain ⟨r0, r1, r2⟩ := b3 HM.out.br
            have fr := HM.out.br.frozen
            have q0 := fun n x => (set3 HM.out.br n x x x).1
            have q1 := fun n x y => (set3 HM.out.br n x y y).2.1
            have q2 := fun n x y z => (set3 HM.out.br n x y z).2.2
            obtain ⟨t1, ht1⟩ : ∃ t1, t1 = bo.extract 0 0 := ⟨_, rfl⟩
            obtain ⟨t2, ht2⟩ : ∃ t2, t2 = bo.extract (0 + ai.size - d) bo.size := ⟨_, rfl⟩
            obtain ⟨t3, ht3⟩ : ∃ t3, t3 = ai.extract 0 d := ⟨_, rfl⟩
            obtain ⟨t4, ht4⟩ : ∃ t4, t4 = ai.extract (d + bo.size - 0) ai.size := ⟨_, rfl⟩
            have hXY : 0 = 0 ∨ d = 0 := by omega
            have hX : 0 ≤ bo.size := by omega
            have hY : d ≤ ai.size := by omega
            have s1 : t1.size = 0 := by rw [ht1]; exact size1 hX
            have s3 : t3.size = d := by rw [ht3]; exact size1 hY
            have s2 : t2.size = ai.size - ai.size := by rw [ht2]; have h := size2 (X := 0) (Y := d) (ai := ai) (bo := bo) hY HE.out; omega
            have s4 : t4.size = ai.size - (d + bo.size) := by rw [ht4]; have h := size2 (X := d) (Y := 0) (E := ai.size) (ai := bo) (bo := ai) hX (by have := HE.out; omega); omega
            have hs1 : ∀ w, (Instr.slice 69 (.slice (some ⟨gm, 0, none⟩) ai.size ai.size) none (some (.int .i64 0)) none).run Tryd.prog w = .ok (.slice (some ⟨gm, 0, none⟩) 0 ai.size) w := fun w => head_slice gm ai.size 0 (by omega) w
            have hs3 : ∀ w, (Instr.slice 69 (.slice (some ⟨gm, 0, none⟩) ai.size ai.size) none (some (.int .i64 (d : Int))) none).run Tryd.prog w = .ok (.slice (some ⟨gm, 0, none⟩) d ai.size) w := fun w => head_slice gm ai.size d (by omega) w
            obtain ⟨o2, hs2, ho2⟩ := tail_slice gm ai.size ai.size (by have := HE.out; omega)
            obtain ⟨o4, hs4, ho4⟩ := tail_slice gm ai.size (d + bo.size) (by have := HE.out; omega)
            simp only [Int.natCast_add] at hs4
            obtain ⟨n2, hn2⟩ : ∃ n2, n2 = ai.size - ai.size := ⟨_, rfl⟩
            obtain ⟨n4, hn4⟩ : ∃ n4, n4 = ai.size - (d + bo.size) := ⟨_, rfl⟩
            rw [← hn2] at s2 hs2
            rw [← hn4] at s4 hs4
            have cv1 := conv wr gm 0 _ ai.size t1 s1 (HM.out.bytes 0 t1 (by rw [ht1]; exact read1 hXY hX hY HE.out))
            have cv2 := conv wr gm o2 _ n2 t2 s2 (HM.out.bytes o2 t2 (by rw [ht2]; exact read2 hXY hX hY HE.out o2 (fun h => by have := ho2 (by omega); omega)))
            have cv3 := conv wr gm 0 _ ai.size t3 s3 (HM.out.bytes 0 t3 (by rw [ht3]; exact read3 hXY hX hY HE.out))
            have cv4 := conv wr gm o4 _ n4 t4 s4 (HM.out.bytes o4 t4 (by rw [ht4]; exact read4 hXY hX hY HE.out o4 (fun h => by have := ho4 (by omega); omega)))
            have cw3 := fun n => conv (wr.drewN n) gm 0 _ ai.size t3 s3 (((HM.out.drewN n).bytes 0 t3 (by rw [ht3]; exact read3 hXY hX hY HE.out)))
            have cw4 := fun n => conv (wr.drewN n) gm o4 _ n4 t4 s4 ((HM.out.drewN n).bytes o4 t4 (by rw [ht4]; exact read4 hXY hX hY HE.out o4 (fun h => by have := ho4 (by omega); omega)))
            have HT1 := Lib.hid ht1
            have HT2 := Lib.hid ht2
            have HT3 := Lib.hid ht3
            have HT4 := Lib.hid ht4
            have l1 : t1.size ≤ 1000000000000 := by omega
            have l2 : t2.size ≤ 1000000000000 := by omega
            have l3 : t3.size ≤ 1000000000000 := by omega
            have l4 : t4.size ≤ 1000000000000 := by omega
            clear ht1 ht2 ht3 ht4 s1 s2 s3 s4 hn2 hn4 ho2 ho4 hXY hX hY hik hik2
            have ad1 := adds t1 ao (by omega) (by omega)
            have ad2 := adds (t1 ++ ao) t2 (by rw [ByteArray.size_append]; omega) (by omega)
            have ad3 := adds t3 bi (by omega) (by omega)
            have ad4 := adds (t3 ++ bi) t4 (by rw [ByteArray.size_append]; omega) (by omega)
            go_wp2
            go_quiet (fail)
            go_wp2
            go_quiet (fail)
            go_wp2
            (try simp only [Exit.inBlock, Exit.then])
            refine bodyPost_ret (by simp [results, Tryd.results15, go_sem, q0, q1, q2]; try rfl) rfl ?_
            refine ⟨.inl ⟨hagr, ?_⟩, ?_⟩
            · rw [HT1.out, HT2.out, HT3.out, HT4.out]
              rfl
            · repeat' (first | with_reducible exact HM.out.below | with_reducible refine Below.drewN' ?_ _ | with_reducible refine Below.setCell ?_ hnr _)
        | succ k1 =>
          have hi : i < bo.size := by omega
          have e1 : decide (i < bo.size) = true := by simp [hi]
          have hidx := dm_index bo i hi
          have HLT : Hid (d + i < ai.size) := Lib.hid (by have := HE.out; omega)
          have xb := HM.out.cellB (d + i) HLT.out
          have xk := HM.out.cellK (d + i) HLT.out
          have fb := HM.out.frozenB
          have fk := HM.out.frozenK
          have hlt := HLT.out
          obtain ⟨v, hv⟩ : ∃ v, v = bat bo i := ⟨_, rfl⟩
          rw [← hv] at hidx
          have HV := Lib.hid hv
          clear hv
          obtain ⟨r0, r1, r2⟩ := b3 HM.out.br
          have fr := HM.out.br.frozen
          have hnr : w.heap.size ≤ gr := by have h1 := HM.out.new; omega
          by_cases hk : 0 ≤ d + i ∧ d + i < 0 + ai.size
          · have hbv : btw 0 d ai bo i (d + i) = bat ai (d + i - 0) := by
              have := btw_at 0 d i ai bo hk.1 hk.2
              skip
              exact this
            rw [hbv] at xb
            rw [show kn1 0 ai.size (d + i) = true from decide_eq_true (by omega)] at xk
            obtain ⟨u, hu⟩ : ∃ u, u = bat ai (d + i - 0) := ⟨_, rfl⟩
            rw [← hu] at xb
            have HU := Lib.hid hu
            have HK := Lib.hid hk
            clear hu hbv hk
            by_cases huv : u = v
            · subst huv
              have n1 : (u != u) = false := by simp
              as_aux_lemma =>
                go_wp2
                go_quiet (fail)
                go_wp2
                go_roundg k1
                case measure => omega
                case rel =>
                  refine ⟨i + 1, by simp, by omega, Lib.hid ?_, Lib.hid ?_⟩
                  · refine (HM.out.drewN _).setB (d + i) _ (fun k hk => ?_)
                    rw [btw_next, HV.out]
                  · intro j hj h1 h2
                    by_cases hji : j = i
                    · subst hji
                      rw [← HV.out, ← HU.out]
                    · exact HA.out j (by omega) h1 h2
            · have n1 : (u != v) = true := by simp [huv]
              have n2 : decide (u = v) = false := by simp [huv]
              have HUV := Lib.hid huv
              clear huv
              have q0 := fun n x => (set3 HM.out.br n x x x).1
              have q1 := fun n x y => (set3 HM.out.br n x y y).2.1
              have q2 := fun n x y z => (set3 HM.out.br n x y z).2.2
              as_aux_lemma =>
                go_wp2
                go_quiet (fail)
                go_wp2
                (try simp only [Exit.inBlock, Exit.then])
                refine bodyPost_ret (by simp [results, Tryd.results15, go_sem, q0, q1, q2]; try rfl) rfl ?_
                refine ⟨.inr ⟨fun h => HUV.out ?_, rfl⟩, ?_⟩
                · rw [HU.out, HV.out]
                  exact (h i (by omega) HK.out.1 HK.out.2).symm
                · repeat' (first | with_reducible exact HM.out.below | with_reducible refine Below.drewN' ?_ _ | with_reducible refine Below.setCell ?_ hnr _)
          · rw [show kn1 0 ai.size (d + i) = false from decide_eq_false (by omega)] at xk
            generalize btw 0 d ai bo i (d + i) = u at xb
            have HK := Lib.hid hk
            clear hk
            as_aux_lemma =>
              go_wp2
              go_quiet (fail)
              go_wp2
              go_roundg k1
              case measure => omega
              case rel =>
                refine ⟨i + 1, by simp, by omega, Lib.hid ?_, Lib.hid ?_⟩
                · refine (HM.out.drewN _).setB (d + i) _ (fun k hk => ?_)
                  rw [btw_next, HV.out]
                · intro j hj h1 h2
                  by_cases hji : j = i
                  · subst hji
                    exact absurd ⟨h1, h2⟩ HK.out
                  · exact HA.out j (by omega) h1 h2
    | succ k1 =>
      have hi : i < ai.size := by omega
      have e1 : decide (i < ai.size) = true := by simp [hi]
      have hidx := dm_index ai i hi
      have HLT : Hid (i < ai.size) := Lib.hid (by have := HE.out; omega)
      have xb := HM.out.cellB (i) HLT.out
      have xk := HM.out.cellK (i) HLT.out
      have fb := HM.out.frozenB
      have fk := HM.out.frozenK
      have hlt := HLT.out
      obtain ⟨v, hv⟩ : ∃ v, v = bat ai i := ⟨_, rfl⟩
      rw [← hv] at hidx
      have HV := Lib.hid hv
      clear hv
      generalize bt1 0 ai i (i) = ub at xb
      generalize kn1 0 i (i) = uk at xk
      go_wp2
      go_roundg k1
      case measure => omega
      case rel =>
        refine ⟨i + 1, by simp, by omega, Lib.hid ?_⟩
        refine (HM.out.setB (i) _ (fun k hk => ?_)).setK (i) true (fun k hk => ?_)
        · rw [bt1_next, HV.out, Nat.zero_add]
        · rw [kn1_next, Nat.zero_add]
theorem dm_lt1 (w : World) (x y d : Nat) (hx : x < 9223372036854775808) (hy : y < 9223372036854775808) (ao ai bo bi : ByteArray) (hsi : ai.size ≤ 1000000000000) (hso : bo.size ≤ 1000000000000) (hsao : ao.size ≤ 1000000000000) (hsbi : bi.size ≤ 1000000000000) (he : y = x + d) (hd : 0 < d) (hf : d ≤ ai.size) (hc : ai.size < d + bo.size) :
    Calls Tryd.prog 15 #[.agg #[.int .i64 (x : Int), .string ao, .string ai], .agg #[.int .i64 (y : Int), .string bo, .string bi]] w (DocPost w x 0 d ao ai bo bi) := by
  have p1 : decide ((x : Int) < 0) = false := by first | (simp; done) | (simp; omega)
  have p2 : decide ((y : Int) < 0) = false := by first | (simp; done) | (simp; omega)
  have g1 : decide (x < y) = true := by first | (simp; done) | (simp; omega)
  have g2 : decide (y < x) = false := by first | (simp; done) | (simp; omega)
  have g1i : decide ((x : Int) < (y : Int)) = true := by first | (simp; done) | (simp; omega)
  have g2i : decide ((y : Int) < (x : Int)) = false := by first | (simp; done) | (simp; omega)
  have g3 : decide (ai.size < d) = false := by first | (simp; done) | (simp; omega)
  have g3i : decide ((ai.size : Int) < (d : Int)) = false := by first | (simp; done) | (simp; omega)
  have z1 : IntKind.i64.wrap ((y : Int) - (x : Int)) = (d : Int) := by rw [IntKind.wrap_i64]; omega
  have z2 : IntKind.i64.wrap ((x : Int) - (x : Int)) = 0 := by rw [IntKind.wrap_i64]; omega
  have z2b : IntKind.i64.wrap 0 = 0 := by rw [IntKind.wrap_i64]; omega
  have k1 : decide (ai.size < d + bo.size) = true := by first | (simp; done) | (simp; omega)
  have k1i : decide ((ai.size : Int) < (d : Int) + (bo.size : Int)) = true := by first | (simp; done) | (simp; omega)
  have m5 := dm_make5 (d + bo.size) (by omega)
  have m4 := dm_make4 (d + bo.size) (by omega)
  simp only [Int.natCast_add] at m5 m4
  have HE : Hid ((d + bo.size) = max (0 + ai.size) (d + bo.size)) := Lib.hid (by omega)
  have HC := Lib.hid hc
  have HF := Lib.hid hf
  have HD := Lib.hid hd
  have HEE := Lib.hid he
  clear hc hd he
  go_enter Tryd.func15, Tryd.ntmps15
  go_wp2
  go_quiet (fail)
  go_wp2
  have HST := Lib.hid (DM.start w x y ao ai bo bi (d + bo.size) nq)
  obtain ⟨ga, hga⟩ : ∃ ga, ga = w.heap.size := ⟨_, rfl⟩
  obtain ⟨gb, hgb⟩ : ∃ gb, gb = w.heap.size + 1 := ⟨_, rfl⟩
  obtain ⟨gr, hgr⟩ : ∃ gr, gr = w.heap.size + 1 + 1 := ⟨_, rfl⟩
  obtain ⟨gm, hgm⟩ : ∃ gm, gm = w.heap.size + 1 + 1 + 1 := ⟨_, rfl⟩
  obtain ⟨gk, hgk⟩ : ∃ gk, gk = w.heap.size + 1 + 1 + 1 + 1 := ⟨_, rfl⟩
  rw [← hgk, ← hgm, ← hgr, ← hgb, ← hga] at HST
  rw [← hgk, ← hgm, ← hgr, ← hgb, ← hga]
  have nkm : ¬ gk = gm := by omega
  have nmk : ¬ gm = gk := by omega
  have nra : ¬ gr = ga := by omega
  clear hgk hgm hgr hgb hga m4 m5 z1 z2 z2b g1 g2 g1i g2i k1 k1i p1 p2 g3 g3i
  go_loopg [12] ai.size (fun k v12 w' => ∃ i : Nat, v12 = .int .i64 i ∧ i + k = ai.size ∧ Hid (DM w w' ga gb gr gm gk x y ao ai bo bi (d + bo.size) (bt1 0 ai i) (kn1 0 i)))
  case atStart =>
    refine ⟨0, rfl, by omega, Lib.hid (HST.out.eqv (fun k hk => ?_) (fun k hk => ?_))⟩
    · exact if_neg (by omega)
    · exact decide_eq_false (by omega)
  case round =>
    obtain ⟨i, rfl, hik, HM⟩ := hrel
    obtain ⟨a0, a1, a2⟩ := b3 HM.out.ba
    obtain ⟨c0, c1, c2⟩ := b3 HM.out.bb
    cases gk with
    | zero =>
      have e1 : decide (i < ai.size) = false := by simp; omega
      obtain rfl : i = ai.size := by omega
      go_wp2
      clear a0 a1 a2 c0 c1 c2 e1
      go_loopg [13] bo.size (fun k v13 w' => ∃ i : Nat, v13 = .int .i64 i ∧ i + k = bo.size ∧ Hid (DM w w' ga gb gr gm gk x y ao ai bo bi (d + bo.size) (btw 0 d ai bo i) (kn1 0 ai.size)) ∧ Hid (∀ j, j < i → 0 ≤ d + j → d + j < 0 + ai.size → bat bo j = bat ai (d + j - 0)))
      case atStart =>
        refine ⟨0, rfl, by omega, Lib.hid (HM.out.eqv (fun k hk => btw_zero _ _ _ _ _) (fun k hk => rfl)), Lib.hid (fun j hj => by omega)⟩
      case round =>
        obtain ⟨i, rfl, hik2, HM, HA⟩ := hrel
        obtain ⟨a0, a1, a2⟩ := b3 HM.out.ba
        obtain ⟨c0, c1, c2⟩ := b3 HM.out.bb
        cases gk with
        | zero =>
          have e1 : decide (i < bo.size) = false := by simp; omega
          obtain rfl : i = bo.size := by omega
          as_aux_lemma =>
            have hagr : agr 0 d ai bo := HA.out
            have hnr : w.heap.size ≤ gr := by have h1 := HM.out.new; omega
            obtain ⟨r0, r1, r2⟩ := b3 HM.out.br
            have fr := HM.out.br.frozen
            have q0 := fun n x => (set3 HM.out.br n x x x).1
            have q1 := fun n x y => (set3 HM.out.br n x y y).2.1
            have q2 := fun n x y z => (set3 HM.out.br n x y z).2.2
            obtain ⟨t1, ht1⟩ : ∃ t1, t1 = bo.extract 0 0 := ⟨_, rfl⟩
            obtain ⟨t2, ht2⟩ : ∃ t2, t2 = bo.extract (0 + ai.size - d) bo.size := ⟨_, rfl⟩
            obtain ⟨t3, ht3⟩ : ∃ t3, t3 = ai.extract 0 d := ⟨_, rfl⟩
            obtain ⟨t4, ht4⟩ : ∃ t4, t4 = ai.extract (d + bo.size - 0) ai.size := ⟨_, rfl⟩
            have hXY : 0 = 0 ∨ d = 0 := by omega
            have hX : 0 ≤ bo.size := by omega
            have hY : d ≤ ai.size := by omega
            have s1 : t1.size = 0 := by rw [ht1]; exact size1 hX
            have s3 : t3.size = d := by rw [ht3]; exact size1 hY
            have s2 : t2.size = (d + bo.size) - ai.size := by rw [ht2]; have h := size2 (X := 0) (Y := d) (ai := ai) (bo := bo) hY HE.out; omega
            have s4 : t4.size = (d + bo.size) - (d + bo.size) := by rw [ht4]; have h := size2 (X := d) (Y := 0) (E := (d + bo.size)) (ai := bo) (bo := ai) hX (by have := HE.out; omega); omega
            have hs1 : ∀ w, (Instr.slice 69 (.slice (some ⟨gm, 0, none⟩) (d + bo.size) (d + bo.size)) none (some (.int .i64 0)) none).run Tryd.prog w = .ok (.slice (some ⟨gm, 0, none⟩) 0 (d + bo.size)) w := fun w => head_slice gm (d + bo.size) 0 (by omega) w
            have hs3 : ∀ w, (Instr.slice 69 (.slice (some ⟨gm, 0, none⟩) (d + bo.size) (d + bo.size)) none (some (.int .i64 (d : Int))) none).run Tryd.prog w = .ok (.slice (some ⟨gm, 0, none⟩) d (d + bo.size)) w := fun w => head_slice gm (d + bo.size) d (by omega) w
            obtain ⟨o2, hs2, ho2⟩ := tail_slice gm (d + bo.size) ai.size (by have := HE.out; omega)
            obtain ⟨o4, hs4, ho4⟩ := tail_slice gm (d + bo.size) (d + bo.size) (by have := HE.out; omega)
            simp only [Int.natCast_add] at hs4
            obtain ⟨n2, hn2⟩ : ∃ n2, n2 = (d + bo.size) - ai.size := ⟨_, rfl⟩
            obtain ⟨n4, hn4⟩ : ∃ n4, n4 = (d + bo.size) - (d + bo.size) := ⟨_, rfl⟩
            rw [← hn2] at s2 hs2
            rw [← hn4] at s4 hs4
            have cv1 := conv wr gm 0 _ (d + bo.size) t1 s1 (HM.out.bytes 0 t1 (by rw [ht1]; exact read1 hXY hX hY HE.out))
            have cv2 := conv wr gm o2 _ n2 t2 s2 (HM.out.bytes o2 t2 (by rw [ht2]; exact read2 hXY hX hY HE.out o2 (fun h => by have := ho2 (by omega); omega)))
            have cv3 := conv wr gm 0 _ (d + bo.size) t3 s3 (HM.out.bytes 0 t3 (by rw [ht3]; exact read3 hXY hX hY HE.out))
            have cv4 := conv wr gm o4 _ n4 t4 s4 (HM.out.bytes o4 t4 (by rw [ht4]; exact read4 hXY hX hY HE.out o4 (fun h => by have := ho4 (by omega); omega)))
            have cw3 := fun n => conv (wr.drewN n) gm 0 _ (d + bo.size) t3 s3 (((HM.out.drewN n).bytes 0 t3 (by rw [ht3]; exact read3 hXY hX hY HE.out)))
            have cw4 := fun n => conv (wr.drewN n) gm o4 _ n4 t4 s4 ((HM.out.drewN n).bytes o4 t4 (by rw [ht4]; exact read4 hXY hX hY HE.out o4 (fun h => by have := ho4 (by omega); omega)))
            have HT1 := Lib.hid ht1
            have HT2 := Lib.hid ht2
            have HT3 := Lib.hid ht3
            have HT4 := Lib.hid ht4
            have l1 : t1.size ≤ 1000000000000 := by omega
            have l2 : t2.size ≤ 1000000000000 := by omega
            have l3 : t3.size ≤ 1000000000000 := by omega
            have l4 : t4.size ≤ 1000000000000 := by omega
            clear ht1 ht2 ht3 ht4 s1 s2 s3 s4 hn2 hn4 ho2 ho4 hXY hX hY hik hik2
            have ad1 := adds t1 ao (by omega) (by omega)
            have ad2 := adds (t1 ++ ao) t2 (by rw [ByteArray.size_append]; omega) (by omega)
            have ad3 := adds t3 bi (by omega) (by omega)
            have ad4 := adds (t3 ++ bi) t4 (by rw [ByteArray.size_append]; omega) (by omega)
            go_wp2
            go_quiet (fail)
            go_wp2
            go_quiet (fail)
            go_wp2
            (try simp only [Exit.inBlock, Exit.then])
            refine bodyPost_ret (by simp [results, Tryd.results15, go_sem, q0, q1, q2]; try rfl) rfl ?_
            refine ⟨.inl ⟨hagr, ?_⟩, ?_⟩
            · rw [HT1.out, HT2.out, HT3.out, HT4.out]
              rfl
            · repeat' (first | with_reducible exact HM.out.below | with_reducible refine Below.drewN' ?_ _ | with_reducible refine Below.setCell ?_ hnr _)
        | succ k1 =>
          have hi : i < bo.size := by omega
          have e1 : decide (i < bo.size) = true := by simp [hi]
          have hidx := dm_index bo i hi
          have HLT : Hid (d + i < (d + bo.size)) := Lib.hid (by have := HE.out; omega)
          have xb := HM.out.cellB (d + i) HLT.out
          have xk := HM.out.cellK (d + i) HLT.out
          have fb := HM.out.frozenB
          have fk := HM.out.frozenK
          have hlt := HLT.out
          obtain ⟨v, hv⟩ : ∃ v, v = bat bo i := ⟨_, rfl⟩
          rw [← hv] at hidx
          have HV := Lib.hid hv
          clear hv
          obtain ⟨r0, r1, r2⟩ := b3 HM.out.br
          have fr := HM.out.br.frozen
          have hnr : w.heap.size ≤ gr := by have h1 := HM.out.new; omega
          by_cases hk : 0 ≤ d + i ∧ d + i < 0 + ai.size
          · have hbv : btw 0 d ai bo i (d + i) = bat ai (d + i - 0) := by
              have := btw_at 0 d i ai bo hk.1 hk.2
              skip
              exact this
            rw [hbv] at xb
            rw [show kn1 0 ai.size (d + i) = true from decide_eq_true (by omega)] at xk
            obtain ⟨u, hu⟩ : ∃ u, u = bat ai (d + i - 0) := ⟨_, rfl⟩
            rw [← hu] at xb
            have HU := Lib.hid hu
            have HK := Lib.hid hk
            clear hu hbv hk
            by_cases huv : u = v
            · subst huv
              have n1 : (u != u) = false := by simp
              as_aux_lemma =>
                go_wp2
                go_quiet (fail)
                go_wp2
                go_roundg k1
                case measure => omega
                case rel =>
                  refine ⟨i + 1, by simp, by omega, Lib.hid ?_, Lib.hid ?_⟩
                  · refine (HM.out.drewN _).setB (d + i) _ (fun k hk => ?_)
                    rw [btw_next, HV.out]
                  · intro j hj h1 h2
                    by_cases hji : j = i
                    · subst hji
                      rw [← HV.out, ← HU.out]
                    · exact HA.out j (by omega) h1 h2
            · have n1 : (u != v) = true := by simp [huv]
              have n2 : decide (u = v) = false := by simp [huv]
              have HUV := Lib.hid huv
              clear huv
              have q0 := fun n x => (set3 HM.out.br n x x x).1
              have q1 := fun n x y => (set3 HM.out.br n x y y).2.1
              have q2 := fun n x y z => (set3 HM.out.br n x y z).2.2
              as_aux_lemma =>
                go_wp2
                go_quiet (fail)
                go_wp2
                (try simp only [Exit.inBlock, Exit.then])
                refine bodyPost_ret (by simp [results, Tryd.results15, go_sem, q0, q1, q2]; try rfl) rfl ?_
                refine ⟨.inr ⟨fun h => HUV.out ?_, rfl⟩, ?_⟩
                · rw [HU.out, HV.out]
                  exact (h i (by omega) HK.out.1 HK.out.2).symm
                · repeat' (first | with_reducible exact HM.out.below | with_reducible refine Below.drewN' ?_ _ | with_reducible refine Below.setCell ?_ hnr _)
          · rw [show kn1 0 ai.size (d + i) = false from decide_eq_false (by omega)] at xk
            generalize btw 0 d ai bo i (d + i) = u at xb
            have HK := Lib.hid hk
            clear hk
            as_aux_lemma =>
              go_wp2
              go_quiet (fail)
              go_wp2
              go_roundg k1
              case measure => omega
              case rel =>
                refine ⟨i + 1, by simp, by omega, Lib.hid ?_, Lib.hid ?_⟩
                · refine (HM.out.drewN _).setB (d + i) _ (fun k hk => ?_)
                  rw [btw_next, HV.out]
                · intro j hj h1 h2
                  by_cases hji : j = i
                  · subst hji
                    exact absurd ⟨h1, h2⟩ HK.out
                  · exact HA.out j (by omega) h1 h2
    | succ k1 =>
      have hi : i < ai.size := by omega
      have e1 : decide (i < ai.size) = true := by simp [hi]
      have hidx := dm_index ai i hi
      have HLT : Hid (i < (d + bo.size)) := Lib.hid (by have := HE.out; omega)
      have xb := HM.out.cellB (i) HLT.out
      have xk := HM.out.cellK (i) HLT.out
      have fb := HM.out.frozenB
      have fk := HM.out.frozenK
      have hlt := HLT.out
      obtain ⟨v, hv⟩ : ∃ v, v = bat ai i := ⟨_, rfl⟩
      rw [← hv] at hidx
      have HV := Lib.hid hv
      clear hv
      generalize bt1 0 ai i (i) = ub at xb
      generalize kn1 0 i (i) = uk at xk
      go_wp2
      go_roundg k1
      case measure => omega
      case rel =>
        refine ⟨i + 1, by simp, by omega, Lib.hid ?_⟩
        refine (HM.out.setB (i) _ (fun k hk => ?_)).setK (i) true (fun k hk => ?_)
        · rw [bt1_next, HV.out, Nat.zero_add]
        · rw [kn1_next, Nat.zero_add]
theorem dm_lt2 (w : World) (x y d : Nat) (hx : x < 9223372036854775808) (hy : y < 9223372036854775808) (ao ai bo bi : ByteArray) (hsi : ai.size ≤ 1000000000000) (hso : bo.size ≤ 1000000000000) (hsao : ao.size ≤ 1000000000000) (hsbi : bi.size ≤ 1000000000000) (he : y = x + d) (hd : 0 < d) (hf : d ≤ ai.size) (hc : d + bo.size ≤ ai.size) :
    Calls Tryd.prog 15 #[.agg #[.int .i64 (x : Int), .string ao, .string ai], .agg #[.int .i64 (y : Int), .string bo, .string bi]] w (DocPost w x 0 d ao ai bo bi) := by
  have p1 : decide ((x : Int) < 0) = false := by first | (simp; done) | (simp; omega)
  have p2 : decide ((y : Int) < 0) = false := by first | (simp; done) | (simp; omega)
  have g1 : decide (x < y) = true := by first | (simp; done) | (simp; omega)
  have g2 : decide (y < x) = false := by first | (simp; done) | (simp; omega)
  have g1i : decide ((x : Int) < (y : Int)) = true := by first | (simp; done) | (simp; omega)
  have g2i : decide ((y : Int) < (x : Int)) = false := by first | (simp; done) | (simp; omega)
  have g3 : decide (ai.size < d) = false := by first | (simp; done) | (simp; omega)
  have g3i : decide ((ai.size : Int) < (d : Int)) = false := by first | (simp; done) | (simp; omega)
  have z1 : IntKind.i64.wrap ((y : Int) - (x : Int)) = (d : Int) := by rw [IntKind.wrap_i64]; omega
  have z2 : IntKind.i64.wrap ((x : Int) - (x : Int)) = 0 := by rw [IntKind.wrap_i64]; omega
  have z2b : IntKind.i64.wrap 0 = 0 := by rw [IntKind.wrap_i64]; omega
  have k1 : decide (ai.size < d + bo.size) = false := by first | (simp; done) | (simp; omega)
  have k1i : decide ((ai.size : Int) < (d : Int) + (bo.size : Int)) = false := by first | (simp; done) | (simp; omega)
  have m5 := dm_make5 ai.size (by omega)
  have m4 := dm_make4 ai.size (by omega)
  have HE : Hid (ai.size = max (0 + ai.size) (d + bo.size)) := Lib.hid (by omega)
  have HC := Lib.hid hc
  have HF := Lib.hid hf
  have HD := Lib.hid hd
  have HEE := Lib.hid he
  clear hc hd he
  go_enter Tryd.func15, Tryd.ntmps15
  go_wp2
  go_quiet (fail)
  go_wp2
  have HST := Lib.hid (DM.start w x y ao ai bo bi ai.size nq)
  obtain ⟨ga, hga⟩ : ∃ ga, ga = w.heap.size := ⟨_, rfl⟩
  obtain ⟨gb, hgb⟩ : ∃ gb, gb = w.heap.size + 1 := ⟨_, rfl⟩
  obtain ⟨gr, hgr⟩ : ∃ gr, gr = w.heap.size + 1 + 1 := ⟨_, rfl⟩
  obtain ⟨gm, hgm⟩ : ∃ gm, gm = w.heap.size + 1 + 1 + 1 := ⟨_, rfl⟩
  obtain ⟨gk, hgk⟩ : ∃ gk, gk = w.heap.size + 1 + 1 + 1 + 1 := ⟨_, rfl⟩
  rw [← hgk, ← hgm, ← hgr, ← hgb, ← hga] at HST
  rw [← hgk, ← hgm, ← hgr, ← hgb, ← hga]
  have nkm : ¬ gk = gm := by omega
  have nmk : ¬ gm = gk := by omega
  have nra : ¬ gr = ga := by omega
  clear hgk hgm hgr hgb hga m4 m5 z1 z2 z2b g1 g2 g1i g2i k1 k1i p1 p2 g3 g3i
  go_loopg [12] ai.size (fun k v12 w' => ∃ i : Nat, v12 = .int .i64 i ∧ i + k = ai.size ∧ Hid (DM w w' ga gb gr gm gk x y ao ai bo bi ai.size (bt1 0 ai i) (kn1 0 i)))
  case atStart =>
    refine ⟨0, rfl, by omega, Lib.hid (HST.out.eqv (fun k hk => ?_) (fun k hk => ?_))⟩
    · exact if_neg (by omega)
    · exact decide_eq_false (by omega)
  case round =>
    obtain ⟨i, rfl, hik, HM⟩ := hrel
    obtain ⟨a0, a1, a2⟩ := b3 HM.out.ba
    obtain ⟨c0, c1, c2⟩ := b3 HM.out.bb
    cases gk with
    | zero =>
      have e1 : decide (i < ai.size) = false := by simp; omega
      obtain rfl : i = ai.size := by omega
      go_wp2
      clear a0 a1 a2 c0 c1 c2 e1
      go_loopg [13] bo.size (fun k v13 w' => ∃ i : Nat, v13 = .int .i64 i ∧ i + k = bo.size ∧ Hid (DM w w' ga gb gr gm gk x y ao ai bo bi ai.size (btw 0 d ai bo i) (kn1 0 ai.size)) ∧ Hid (∀ j, j < i → 0 ≤ d + j → d + j < 0 + ai.size → bat bo j = bat ai (d + j - 0)))
      case atStart =>
        refine ⟨0, rfl, by omega, Lib.hid (HM.out.eqv (fun k hk => btw_zero _ _ _ _ _) (fun k hk => rfl)), Lib.hid (fun j hj => by omega)⟩
      case round =>
        obtain ⟨i, rfl, hik2, HM, HA⟩ := hrel
        obtain ⟨a0, a1, a2⟩ := b3 HM.out.ba
        obtain ⟨c0, c1, c2⟩ := b3 HM.out.bb
        cases gk with
        | zero =>
          have e1 : decide (i < bo.size) = false := by simp; omega
          obtain rfl : i = bo.size := by omega
          as_aux_lemma =>
            have hagr : agr 0 d ai bo := HA.out
            have hnr : w.heap.size ≤ gr := by have h1 := HM.out.new; omega
            obtain ⟨r0, r1, r2⟩ := b3 HM.out.br
            have fr := HM.out.br.frozen
            have q0 := fun n x => (set3 HM.out.br n x x x).1
            have q1 := fun n x y => (set3 HM.out.br n x y y).2.1
            have q2 := fun n x y z => (set3 HM.out.br n x y z).2.2
            obtain ⟨t1, ht1⟩ : ∃ t1, t1 = bo.extract 0 0 := ⟨_, rfl⟩
            obtain ⟨t2, ht2⟩ : ∃ t2, t2 = bo.extract (0 + ai.size - d) bo.size := ⟨_, rfl⟩
            obtain ⟨t3, ht3⟩ : ∃ t3, t3 = ai.extract 0 d := ⟨_, rfl⟩
            obtain ⟨t4, ht4⟩ : ∃ t4, t4 = ai.extract (d + bo.size - 0) ai.size := ⟨_, rfl⟩
            have hXY : 0 = 0 ∨ d = 0 := by omega
            have hX : 0 ≤ bo.size := by omega
            have hY : d ≤ ai.size := by omega
            have s1 : t1.size = 0 := by rw [ht1]; exact size1 hX
            have s3 : t3.size = d := by rw [ht3]; exact size1 hY
            have s2 : t2.size = ai.size - ai.size := by rw [ht2]; have h := size2 (X := 0) (Y := d) (ai := ai) (bo := bo) hY HE.out; omega
            have s4 : t4.size = ai.size - (d + bo.size) := by rw [ht4]; have h := size2 (X := d) (Y := 0) (E := ai.size) (ai := bo) (bo := ai) hX (by have := HE.out; omega); omega
            have hs1 : ∀ w, (Instr.slice 69 (.slice (some ⟨gm, 0, none⟩) ai.size ai.size) none (some (.int .i64 0)) none).run Tryd.prog w = .ok (.slice (some ⟨gm, 0, none⟩) 0 ai.size) w := fun w => head_slice gm ai.size 0 (by omega) w
            have hs3 : ∀ w, (Instr.slice 69 (.slice (some ⟨gm, 0, none⟩) ai.size ai.size) none (some (.int .i64 (d : Int))) none).run Tryd.prog w = .ok (.slice (some ⟨gm, 0, none⟩) d ai.size) w := fun w => head_slice gm ai.size d (by omega) w
            obtain ⟨o2, hs2, ho2⟩ := tail_slice gm ai.size ai.size (by have := HE.out; omega)
            obtain ⟨o4, hs4, ho4⟩ := tail_slice gm ai.size (d + bo.size) (by have := HE.out; omega)
            simp only [Int.natCast_add] at hs4
            obtain ⟨n2, hn2⟩ : ∃ n2, n2 = ai.size - ai.size := ⟨_, rfl⟩
            obtain ⟨n4, hn4⟩ : ∃ n4, n4 = ai.size - (d + bo.size) := ⟨_, rfl⟩
            rw [← hn2] at s2 hs2
            rw [← hn4] at s4 hs4
            have cv1 := conv wr gm 0 _ ai.size t1 s1 (HM.out.bytes 0 t1 (by rw [ht1]; exact read1 hXY hX hY HE.out))
            have cv2 := conv wr gm o2 _ n2 t2 s2 (HM.out.bytes o2 t2 (by rw [ht2]; exact read2 hXY hX hY HE.out o2 (fun h => by have := ho2 (by omega); omega)))
            have cv3 := conv wr gm 0 _ ai.size t3 s3 (HM.out.bytes 0 t3 (by rw [ht3]; exact read3 hXY hX hY HE.out))
            have cv4 := conv wr gm o4 _ n4 t4 s4 (HM.out.bytes o4 t4 (by rw [ht4]; exact read4 hXY hX hY HE.out o4 (fun h => by have := ho4 (by omega); omega)))
            have cw3 := fun n => conv (wr.drewN n) gm 0 _ ai.size t3 s3 (((HM.out.drewN n).bytes 0 t3 (by rw [ht3]; exact read3 hXY hX hY HE.out)))
            have cw4 := fun n => conv (wr.drewN n) gm o4 _ n4 t4 s4 ((HM.out.drewN n).bytes o4 t4 (by rw [ht4]; exact read4 hXY hX hY HE.out o4 (fun h => by have := ho4 (by omega); omega)))
            have HT1 := Lib.hid ht1
            have HT2 := Lib.hid ht2
            have HT3 := Lib.hid ht3
            have HT4 := Lib.hid ht4
            have l1 : t1.size ≤ 1000000000000 := by omega
            have l2 : t2.size ≤ 1000000000000 := by omega
            have l3 : t3.size ≤ 1000000000000 := by omega
            have l4 : t4.size ≤ 1000000000000 := by omega
            clear ht1 ht2 ht3 ht4 s1 s2 s3 s4 hn2 hn4 ho2 ho4 hXY hX hY hik hik2
            have ad1 := adds t1 ao (by omega) (by omega)
            have ad2 := adds (t1 ++ ao) t2 (by rw [ByteArray.size_append]; omega) (by omega)
            have ad3 := adds t3 bi (by omega) (by omega)
            have ad4 := adds (t3 ++ bi) t4 (by rw [ByteArray.size_append]; omega) (by omega)
            go_wp2
            go_quiet (fail)
            go_wp2
            go_quiet (fail)
            go_wp2
            (try simp only [Exit.inBlock, Exit.then])
            refine bodyPost_ret (by simp [results, Tryd.results15, go_sem, q0, q1, q2]; try rfl) rfl ?_
            refine ⟨.inl ⟨hagr, ?_⟩, ?_⟩
            · rw [HT1.out, HT2.out, HT3.out, HT4.out]
              rfl
            · repeat' (first | with_reducible exact HM.out.below | with_reducible refine Below.drewN' ?_ _ | with_reducible refine Below.setCell ?_ hnr _)
        | succ k1 =>
          have hi : i < bo.size := by omega
          have e1 : decide (i < bo.size) = true := by simp [hi]
          have hidx := dm_index bo i hi
          have HLT : Hid (d + i < ai.size) := Lib.hid (by have := HE.out; omega)
          have xb := HM.out.cellB (d + i) HLT.out
          have xk := HM.out.cellK (d + i) HLT.out
          have fb := HM.out.frozenB
          have fk := HM.out.frozenK
          have hlt := HLT.out
          obtain ⟨v, hv⟩ : ∃ v, v = bat bo i := ⟨_, rfl⟩
          rw [← hv] at hidx
          have HV := Lib.hid hv
          clear hv
          obtain ⟨r0, r1, r2⟩ := b3 HM.out.br
          have fr := HM.out.br.frozen
          have hnr : w.heap.size ≤ gr := by have h1 := HM.out.new; omega
          by_cases hk : 0 ≤ d + i ∧ d + i < 0 + ai.size
          · have hbv : btw 0 d ai bo i (d + i) = bat ai (d + i - 0) := by
              have := btw_at 0 d i ai bo hk.1 hk.2
              skip
              exact this
            rw [hbv] at xb
            rw [show kn1 0 ai.size (d + i) = true from decide_eq_true (by omega)] at xk
            obtain ⟨u, hu⟩ : ∃ u, u = bat ai (d + i - 0) := ⟨_, rfl⟩
            rw [← hu] at xb
            have HU := Lib.hid hu
            have HK := Lib.hid hk
            clear hu hbv hk
            by_cases huv : u = v
            · subst huv
              have n1 : (u != u) = false := by simp
              as_aux_lemma =>
                go_wp2
                go_quiet (fail)
                go_wp2
                go_roundg k1
                case measure => omega
                case rel =>
                  refine ⟨i + 1, by simp, by omega, Lib.hid ?_, Lib.hid ?_⟩
                  · refine (HM.out.drewN _).setB (d + i) _ (fun k hk => ?_)
                    rw [btw_next, HV.out]
                  · intro j hj h1 h2
                    by_cases hji : j = i
                    · subst hji
                      rw [← HV.out, ← HU.out]
                    · exact HA.out j (by omega) h1 h2
            · have n1 : (u != v) = true := by simp [huv]
              have n2 : decide (u = v) = false := by simp [huv]
              have HUV := Lib.hid huv
              clear huv
              have q0 := fun n x => (set3 HM.out.br n x x x).1
              have q1 := fun n x y => (set3 HM.out.br n x y y).2.1
              have q2 := fun n x y z => (set3 HM.out.br n x y z).2.2
              as_aux_lemma =>
                go_wp2
                go_quiet (fail)
                go_wp2
                (try simp only [Exit.inBlock, Exit.then])
                refine bodyPost_ret (by simp [results, Tryd.results15, go_sem, q0, q1, q2]; try rfl) rfl ?_
                refine ⟨.inr ⟨fun h => HUV.out ?_, rfl⟩, ?_⟩
                · rw [HU.out, HV.out]
                  exact (h i (by omega) HK.out.1 HK.out.2).symm
                · repeat' (first | with_reducible exact HM.out.below | with_reducible refine Below.drewN' ?_ _ | with_reducible refine Below.setCell ?_ hnr _)
          · rw [show kn1 0 ai.size (d + i) = false from decide_eq_false (by omega)] at xk
            generalize btw 0 d ai bo i (d + i) = u at xb
            have HK := Lib.hid hk
            clear hk
            as_aux_lemma =>
              go_wp2
              go_quiet (fail)
              go_wp2
              go_roundg k1
              case measure => omega
              case rel =>
                refine ⟨i + 1, by simp, by omega, Lib.hid ?_, Lib.hid ?_⟩
                · refine (HM.out.drewN _).setB (d + i) _ (fun k hk => ?_)
                  rw [btw_next, HV.out]
                · intro j hj h1 h2
                  by_cases hji : j = i
                  · subst hji
                    exact absurd ⟨h1, h2⟩ HK.out
                  · exact HA.out j (by omega) h1 h2
    | succ k1 =>
      have hi : i < ai.size := by omega
      have e1 : decide (i < ai.size) = true := by simp [hi]
      have hidx := dm_index ai i hi
      have HLT : Hid (i < ai.size) := Lib.hid (by have := HE.out; omega)
      have xb := HM.out.cellB (i) HLT.out
      have xk := HM.out.cellK (i) HLT.out
      have fb := HM.out.frozenB
      have fk := HM.out.frozenK
      have hlt := HLT.out
      obtain ⟨v, hv⟩ : ∃ v, v = bat ai i := ⟨_, rfl⟩
      rw [← hv] at hidx
      have HV := Lib.hid hv
      clear hv
      generalize bt1 0 ai i (i) = ub at xb
      generalize kn1 0 i (i) = uk at xk
      go_wp2
      go_roundg k1
      case measure => omega
      case rel =>
        refine ⟨i + 1, by simp, by omega, Lib.hid ?_⟩
        refine (HM.out.setB (i) _ (fun k hk => ?_)).setK (i) true (fun k hk => ?_)
        · rw [bt1_next, HV.out, Nat.zero_add]
        · rw [kn1_next, Nat.zero_add]
theorem dm_gt1 (w : World) (x y d : Nat) (hx : x < 9223372036854775808) (hy : y < 9223372036854775808) (ao ai bo bi : ByteArray) (hsi : ai.size ≤ 1000000000000) (hso : bo.size ≤ 1000000000000) (hsao : ao.size ≤ 1000000000000) (hsbi : bi.size ≤ 1000000000000) (he : x = y + d) (hd : 0 < d) (hf : d ≤ bo.size) (hc : d + ai.size < bo.size) :
    Calls Tryd.prog 15 #[.agg #[.int .i64 (x : Int), .string ao, .string ai], .agg #[.int .i64 (y : Int), .string bo, .string bi]] w (DocPost w y d 0 ao ai bo bi) := by
  have p1 : decide ((x : Int) < 0) = false := by first | (simp; done) | (simp; omega)
  have p2 : decide ((y : Int) < 0) = false := by first | (simp; done) | (simp; omega)
  have g1 : decide (x < y) = false := by first | (simp; done) | (simp; omega)
  have g2 : decide (y < x) = true := by first | (simp; done) | (simp; omega)
  have g1i : decide ((x : Int) < (y : Int)) = false := by first | (simp; done) | (simp; omega)
  have g2i : decide ((y : Int) < (x : Int)) = true := by first | (simp; done) | (simp; omega)
  have g3 : decide (bo.size < d) = false := by first | (simp; done) | (simp; omega)
  have g3i : decide ((bo.size : Int) < (d : Int)) = false := by first | (simp; done) | (simp; omega)
  have z1 : IntKind.i64.wrap ((x : Int) - (y : Int)) = (d : Int) := by rw [IntKind.wrap_i64]; omega
  have z2 : IntKind.i64.wrap ((y : Int) - (y : Int)) = 0 := by rw [IntKind.wrap_i64]; omega
  have z2b : IntKind.i64.wrap 0 = 0 := by rw [IntKind.wrap_i64]; omega
  have k1 : decide (d + ai.size < bo.size) = true := by first | (simp; done) | (simp; omega)
  have k1i : decide ((d : Int) + (ai.size : Int) < (bo.size : Int)) = true := by first | (simp; done) | (simp; omega)
  have m5 := dm_make5 bo.size (by omega)
  have m4 := dm_make4 bo.size (by omega)
  have HE : Hid (bo.size = max (d + ai.size) (0 + bo.size)) := Lib.hid (by omega)
  have HC := Lib.hid hc
  have HF := Lib.hid hf
  have HD := Lib.hid hd
  have HEE := Lib.hid he
  clear hc hd he
  go_enter Tryd.func15, Tryd.ntmps15
  go_wp2
  go_quiet (fail)
  go_wp2
  have HST := Lib.hid (DM.start w x y ao ai bo bi bo.size nq)
  obtain ⟨ga, hga⟩ : ∃ ga, ga = w.heap.size := ⟨_, rfl⟩
  obtain ⟨gb, hgb⟩ : ∃ gb, gb = w.heap.size + 1 := ⟨_, rfl⟩
  obtain ⟨gr, hgr⟩ : ∃ gr, gr = w.heap.size + 1 + 1 := ⟨_, rfl⟩
  obtain ⟨gm, hgm⟩ : ∃ gm, gm = w.heap.size + 1 + 1 + 1 := ⟨_, rfl⟩
  obtain ⟨gk, hgk⟩ : ∃ gk, gk = w.heap.size + 1 + 1 + 1 + 1 := ⟨_, rfl⟩
  rw [← hgk, ← hgm, ← hgr, ← hgb, ← hga] at HST
  rw [← hgk, ← hgm, ← hgr, ← hgb, ← hga]
  have nkm : ¬ gk = gm := by omega
  have nmk : ¬ gm = gk := by omega
  have nra : ¬ gr = ga := by omega
  clear hgk hgm hgr hgb hga m4 m5 z1 z2 z2b g1 g2 g1i g2i k1 k1i p1 p2 g3 g3i
  go_loopg [12] ai.size (fun k v12 w' => ∃ i : Nat, v12 = .int .i64 i ∧ i + k = ai.size ∧ Hid (DM w w' ga gb gr gm gk x y ao ai bo bi bo.size (bt1 d ai i) (kn1 d i)))
  case atStart =>
    refine ⟨0, rfl, by omega, Lib.hid (HST.out.eqv (fun k hk => ?_) (fun k hk => ?_))⟩
    · exact if_neg (by omega)
    · exact decide_eq_false (by omega)
  case round =>
    obtain ⟨i, rfl, hik, HM⟩ := hrel
    obtain ⟨a0, a1, a2⟩ := b3 HM.out.ba
    obtain ⟨c0, c1, c2⟩ := b3 HM.out.bb
    cases gk with
    | zero =>
      have e1 : decide (i < ai.size) = false := by simp; omega
      obtain rfl : i = ai.size := by omega
      go_wp2
      clear a0 a1 a2 c0 c1 c2 e1
      go_loopg [13] bo.size (fun k v13 w' => ∃ i : Nat, v13 = .int .i64 i ∧ i + k = bo.size ∧ Hid (DM w w' ga gb gr gm gk x y ao ai bo bi bo.size (btw d 0 ai bo i) (kn1 d ai.size)) ∧ Hid (∀ j, j < i → d ≤ 0 + j → 0 + j < d + ai.size → bat bo j = bat ai (0 + j - d)))
      case atStart =>
        refine ⟨0, rfl, by omega, Lib.hid (HM.out.eqv (fun k hk => btw_zero _ _ _ _ _) (fun k hk => rfl)), Lib.hid (fun j hj => by omega)⟩
      case round =>
        obtain ⟨i, rfl, hik2, HM, HA⟩ := hrel
        obtain ⟨a0, a1, a2⟩ := b3 HM.out.ba
        obtain ⟨c0, c1, c2⟩ := b3 HM.out.bb
        cases gk with
        | zero =>
          have e1 : decide (i < bo.size) = false := by simp; omega
          obtain rfl : i = bo.size := by omega
          as_aux_lemma =>
            have hagr : agr d 0 ai bo := HA.out
            have hnr : w.heap.size ≤ gr := by have h1 := HM.out.new; omega
            obtain ⟨r0, r1, r2⟩ := b3 HM.out.br
            have fr := HM.out.br.frozen
            have q0 := fun n x => (set3 HM.out.br n x x x).1
            have q1 := fun n x y => (set3 HM.out.br n x y y).2.1
            have q2 := fun n x y z => (set3 HM.out.br n x y z).2.2
            obtain ⟨t1, ht1⟩ : ∃ t1, t1 = bo.extract 0 d := ⟨_, rfl⟩
            obtain ⟨t2, ht2⟩ : ∃ t2, t2 = bo.extract (d + ai.size - 0) bo.size := ⟨_, rfl⟩
            obtain ⟨t3, ht3⟩ : ∃ t3, t3 = ai.extract 0 0 := ⟨_, rfl⟩
            obtain ⟨t4, ht4⟩ : ∃ t4, t4 = ai.extract (0 + bo.size - d) ai.size := ⟨_, rfl⟩
            have hXY : d = 0 ∨ 0 = 0 := by omega
            have hX : d ≤ bo.size := by omega
            have hY : 0 ≤ ai.size := by omega
            have s1 : t1.size = d := by rw [ht1]; exact size1 hX
            have s3 : t3.size = 0 := by rw [ht3]; exact size1 hY
            have s2 : t2.size = bo.size - (d + ai.size) := by rw [ht2]; have h := size2 (X := d) (Y := 0) (ai := ai) (bo := bo) hY HE.out; omega
            have s4 : t4.size = bo.size - bo.size := by rw [ht4]; have h := size2 (X := 0) (Y := d) (E := bo.size) (ai := bo) (bo := ai) hX (by have := HE.out; omega); omega
            have hs1 : ∀ w, (Instr.slice 69 (.slice (some ⟨gm, 0, none⟩) bo.size bo.size) none (some (.int .i64 (d : Int))) none).run Tryd.prog w = .ok (.slice (some ⟨gm, 0, none⟩) d bo.size) w := fun w => head_slice gm bo.size d (by omega) w
            have hs3 : ∀ w, (Instr.slice 69 (.slice (some ⟨gm, 0, none⟩) bo.size bo.size) none (some (.int .i64 0)) none).run Tryd.prog w = .ok (.slice (some ⟨gm, 0, none⟩) 0 bo.size) w := fun w => head_slice gm bo.size 0 (by omega) w
            obtain ⟨o2, hs2, ho2⟩ := tail_slice gm bo.size (d + ai.size) (by have := HE.out; omega)
            obtain ⟨o4, hs4, ho4⟩ := tail_slice gm bo.size bo.size (by have := HE.out; omega)
            simp only [Int.natCast_add] at hs2
            obtain ⟨n2, hn2⟩ : ∃ n2, n2 = bo.size - (d + ai.size) := ⟨_, rfl⟩
            obtain ⟨n4, hn4⟩ : ∃ n4, n4 = bo.size - bo.size := ⟨_, rfl⟩
            rw [← hn2] at s2 hs2
            rw [← hn4] at s4 hs4
            have cv1 := conv wr gm 0 _ bo.size t1 s1 (HM.out.bytes 0 t1 (by rw [ht1]; exact read1 hXY hX hY HE.out))
            have cv2 := conv wr gm o2 _ n2 t2 s2 (HM.out.bytes o2 t2 (by rw [ht2]; exact read2 hXY hX hY HE.out o2 (fun h => by have := ho2 (by omega); omega)))
            have cv3 := conv wr gm 0 _ bo.size t3 s3 (HM.out.bytes 0 t3 (by rw [ht3]; exact read3 hXY hX hY HE.out))
            have cv4 := conv wr gm o4 _ n4 t4 s4 (HM.out.bytes o4 t4 (by rw [ht4]; exact read4 hXY hX hY HE.out o4 (fun h => by have := ho4 (by omega); omega)))
            have cw3 := fun n => conv (wr.drewN n) gm 0 _ bo.size t3 s3 (((HM.out.drewN n).bytes 0 t3 (by rw [ht3]; exact read3 hXY hX hY HE.out)))
            have cw4 := fun n => conv (wr.drewN n) gm o4 _ n4 t4 s4 ((HM.out.drewN n).bytes o4 t4 (by rw [ht4]; exact read4 hXY hX hY HE.out o4 (fun h => by have := ho4 (by omega); omega)))
            have HT1 := Lib.hid ht1
            have HT2 := Lib.hid ht2
            have HT3 := Lib.hid ht3
            have HT4 := Lib.hid ht4
            have l1 : t1.size ≤ 1000000000000 := by omega
            have l2 : t2.size ≤ 1000000000000 := by omega
            have l3 : t3.size ≤ 1000000000000 := by omega
            have l4 : t4.size ≤ 1000000000000 := by omega
            clear ht1 ht2 ht3 ht4 s1 s2 s3 s4 hn2 hn4 ho2 ho4 hXY hX hY hik hik2
            have ad1 := adds t1 ao (by omega) (by omega)
            have ad2 := adds (t1 ++ ao) t2 (by rw [ByteArray.size_append]; omega) (by omega)
            have ad3 := adds t3 bi (by omega) (by omega)
            have ad4 := adds (t3 ++ bi) t4 (by rw [ByteArray.size_append]; omega) (by omega)
            go_wp2
            go_quiet (fail)
            go_wp2
            go_quiet (fail)
            go_wp2
            (try simp only [Exit.inBlock, Exit.then])
            refine bodyPost_ret (by simp [results, Tryd.results15, go_sem, q0, q1, q2]; try rfl) rfl ?_
            refine ⟨.inl ⟨hagr, ?_⟩, ?_⟩
            · rw [HT1.out, HT2.out, HT3.out, HT4.out]
              rfl
            · repeat' (first | with_reducible exact HM.out.below | with_reducible refine Below.drewN' ?_ _ | with_reducible refine Below.setCell ?_ hnr _)
        | succ k1 =>
          have hi : i < bo.size := by omega
          have e1 : decide (i < bo.size) = true := by simp [hi]
          have hidx := dm_index bo i hi
          have HLT : Hid (i < bo.size) := Lib.hid (by have := HE.out; omega)
          have xb := HM.out.cellB (i) HLT.out
          have xk := HM.out.cellK (i) HLT.out
          have fb := HM.out.frozenB
          have fk := HM.out.frozenK
          have hlt := HLT.out
          obtain ⟨v, hv⟩ : ∃ v, v = bat bo i := ⟨_, rfl⟩
          rw [← hv] at hidx
          have HV := Lib.hid hv
          clear hv
          obtain ⟨r0, r1, r2⟩ := b3 HM.out.br
          have fr := HM.out.br.frozen
          have hnr : w.heap.size ≤ gr := by have h1 := HM.out.new; omega
          by_cases hk : d ≤ 0 + i ∧ 0 + i < d + ai.size
          · have hbv : btw d 0 ai bo i (i) = bat ai (0 + i - d) := by
              have := btw_at d 0 i ai bo hk.1 hk.2
              rw [Nat.zero_add] at this ⊢
              exact this
            rw [hbv] at xb
            rw [show kn1 d ai.size (i) = true from decide_eq_true (by omega)] at xk
            obtain ⟨u, hu⟩ : ∃ u, u = bat ai (0 + i - d) := ⟨_, rfl⟩
            rw [← hu] at xb
            have HU := Lib.hid hu
            have HK := Lib.hid hk
            clear hu hbv hk
            by_cases huv : u = v
            · subst huv
              have n1 : (u != u) = false := by simp
              as_aux_lemma =>
                go_wp2
                go_quiet (fail)
                go_wp2
                go_roundg k1
                case measure => omega
                case rel =>
                  refine ⟨i + 1, by simp, by omega, Lib.hid ?_, Lib.hid ?_⟩
                  · refine (HM.out.drewN _).setB (i) _ (fun k hk => ?_)
                    rw [btw_next, HV.out, Nat.zero_add]
                  · intro j hj h1 h2
                    by_cases hji : j = i
                    · subst hji
                      rw [← HV.out, ← HU.out]
                    · exact HA.out j (by omega) h1 h2
            · have n1 : (u != v) = true := by simp [huv]
              have n2 : decide (u = v) = false := by simp [huv]
              have HUV := Lib.hid huv
              clear huv
              have q0 := fun n x => (set3 HM.out.br n x x x).1
              have q1 := fun n x y => (set3 HM.out.br n x y y).2.1
              have q2 := fun n x y z => (set3 HM.out.br n x y z).2.2
              as_aux_lemma =>
                go_wp2
                go_quiet (fail)
                go_wp2
                (try simp only [Exit.inBlock, Exit.then])
                refine bodyPost_ret (by simp [results, Tryd.results15, go_sem, q0, q1, q2]; try rfl) rfl ?_
                refine ⟨.inr ⟨fun h => HUV.out ?_, rfl⟩, ?_⟩
                · rw [HU.out, HV.out]
                  exact (h i (by omega) HK.out.1 HK.out.2).symm
                · repeat' (first | with_reducible exact HM.out.below | with_reducible refine Below.drewN' ?_ _ | with_reducible refine Below.setCell ?_ hnr _)
          · rw [show kn1 d ai.size (i) = false from decide_eq_false (by omega)] at xk
            generalize btw d 0 ai bo i (i) = u at xb
            have HK := Lib.hid hk
            clear hk
            as_aux_lemma =>
              go_wp2
              go_quiet (fail)
              go_wp2
              go_roundg k1
              case measure => omega
              case rel =>
                refine ⟨i + 1, by simp, by omega, Lib.hid ?_, Lib.hid ?_⟩
                · refine (HM.out.drewN _).setB (i) _ (fun k hk => ?_)
                  rw [btw_next, HV.out, Nat.zero_add]
                · intro j hj h1 h2
                  by_cases hji : j = i
                  · subst hji
                    exact absurd ⟨h1, h2⟩ HK.out
                  · exact HA.out j (by omega) h1 h2
    | succ k1 =>
      have hi : i < ai.size := by omega
      have e1 : decide (i < ai.size) = true := by simp [hi]
      have hidx := dm_index ai i hi
      have HLT : Hid (d + i < bo.size) := Lib.hid (by have := HE.out; omega)
      have xb := HM.out.cellB (d + i) HLT.out
      have xk := HM.out.cellK (d + i) HLT.out
      have fb := HM.out.frozenB
      have fk := HM.out.frozenK
      have hlt := HLT.out
      obtain ⟨v, hv⟩ : ∃ v, v = bat ai i := ⟨_, rfl⟩
      rw [← hv] at hidx
      have HV := Lib.hid hv
      clear hv
      generalize bt1 d ai i (d + i) = ub at xb
      generalize kn1 d i (d + i) = uk at xk
      go_wp2
      go_roundg k1
      case measure => omega
      case rel =>
        refine ⟨i + 1, by simp, by omega, Lib.hid ?_⟩
        refine (HM.out.setB (d + i) _ (fun k hk => ?_)).setK (d + i) true (fun k hk => ?_)
        · rw [bt1_next, HV.out]
        · rw [kn1_next]
theorem dm_gt2 (w : World) (x y d : Nat) (hx : x < 9223372036854775808) (hy : y < 9223372036854775808) (ao ai bo bi : ByteArray) (hsi : ai.size ≤ 1000000000000) (hso : bo.size ≤ 1000000000000) (hsao : ao.size ≤ 1000000000000) (hsbi : bi.size ≤ 1000000000000) (he : x = y + d) (hd : 0 < d) (hf : d ≤ bo.size) (hc : bo.size ≤ d + ai.size) :
    Calls Tryd.prog 15 #[.agg #[.int .i64 (x : Int), .string ao, .string ai], .agg #[.int .i64 (y : Int), .string bo, .string bi]] w (DocPost w y d 0 ao ai bo bi) := by
  have p1 : decide ((x : Int) < 0) = false := by first | (simp; done) | (simp; omega)
  have p2 : decide ((y : Int) < 0) = false := by first | (simp; done) | (simp; omega)
  have g1 : decide (x < y) = false := by first | (simp; done) | (simp; omega)
  have g2 : decide (y < x) = true := by first | (simp; done) | (simp; omega)
  have g1i : decide ((x : Int) < (y : Int)) = false := by first | (simp; done) | (simp; omega)
  have g2i : decide ((y : Int) < (x : Int)) = true := by first | (simp; done) | (simp; omega)
  have g3 : decide (bo.size < d) = false := by first | (simp; done) | (simp; omega)
  have g3i : decide ((bo.size : Int) < (d : Int)) = false := by first | (simp; done) | (simp; omega)
  have z1 : IntKind.i64.wrap ((x : Int) - (y : Int)) = (d : Int) := by rw [IntKind.wrap_i64]; omega
  have z2 : IntKind.i64.wrap ((y : Int) - (y : Int)) = 0 := by rw [IntKind.wrap_i64]; omega
  have z2b : IntKind.i64.wrap 0 = 0 := by rw [IntKind.wrap_i64]; omega
  have k1 : decide (d + ai.size < bo.size) = false := by first | (simp; done) | (simp; omega)
  have k1i : decide ((d : Int) + (ai.size : Int) < (bo.size : Int)) = false := by first | (simp; done) | (simp; omega)
  have m5 := dm_make5 (d + ai.size) (by omega)
  have m4 := dm_make4 (d + ai.size) (by omega)
  simp only [Int.natCast_add] at m5 m4
  have HE : Hid ((d + ai.size) = max (d + ai.size) (0 + bo.size)) := Lib.hid (by omega)
  have HC := Lib.hid hc
  have HF := Lib.hid hf
  have HD := Lib.hid hd
  have HEE := Lib.hid he
  clear hc hd he
  go_enter Tryd.func15, Tryd.ntmps15
  go_wp2
  go_quiet (fail)
  go_wp2
  have HST := Lib.hid (DM.start w x y ao ai bo bi (d + ai.size) nq)
  obtain ⟨ga, hga⟩ : ∃ ga, ga = w.heap.size := ⟨_, rfl⟩
  obtain ⟨gb, hgb⟩ : ∃ gb, gb = w.heap.size + 1 := ⟨_, rfl⟩
  obtain ⟨gr, hgr⟩ : ∃ gr, gr = w.heap.size + 1 + 1 := ⟨_, rfl⟩
  obtain ⟨gm, hgm⟩ : ∃ gm, gm = w.heap.size + 1 + 1 + 1 := ⟨_, rfl⟩
  obtain ⟨gk, hgk⟩ : ∃ gk, gk = w.heap.size + 1 + 1 + 1 + 1 := ⟨_, rfl⟩
  rw [← hgk, ← hgm, ← hgr, ← hgb, ← hga] at HST
  rw [← hgk, ← hgm, ← hgr, ← hgb, ← hga]
  have nkm : ¬ gk = gm := by omega
  have nmk : ¬ gm = gk := by omega
  have nra : ¬ gr = ga := by omega
  clear hgk hgm hgr hgb hga m4 m5 z1 z2 z2b g1 g2 g1i g2i k1 k1i p1 p2 g3 g3i
  go_loopg [12] ai.size (fun k v12 w' => ∃ i : Nat, v12 = .int .i64 i ∧ i + k = ai.size ∧ Hid (DM w w' ga gb gr gm gk x y ao ai bo bi (d + ai.size) (bt1 d ai i) (kn1 d i)))
  case atStart =>
    refine ⟨0, rfl, by omega, Lib.hid (HST.out.eqv (fun k hk => ?_) (fun k hk => ?_))⟩
    · exact if_neg (by omega)
    · exact decide_eq_false (by omega)
  case round =>
    obtain ⟨i, rfl, hik, HM⟩ := hrel
    obtain ⟨a0, a1, a2⟩ := b3 HM.out.ba
    obtain ⟨c0, c1, c2⟩ := b3 HM.out.bb
    cases gk with
    | zero =>
      have e1 : decide (i < ai.size) = false := by simp; omega
      obtain rfl : i = ai.size := by omega
      go_wp2
      clear a0 a1 a2 c0 c1 c2 e1
      go_loopg [13] bo.size (fun k v13 w' => ∃ i : Nat, v13 = .int .i64 i ∧ i + k = bo.size ∧ Hid (DM w w' ga gb gr gm gk x y ao ai bo bi (d + ai.size) (btw d 0 ai bo i) (kn1 d ai.size)) ∧ Hid (∀ j, j < i → d ≤ 0 + j → 0 + j < d + ai.size → bat bo j = bat ai (0 + j - d)))
      case atStart =>
        refine ⟨0, rfl, by omega, Lib.hid (HM.out.eqv (fun k hk => btw_zero _ _ _ _ _) (fun k hk => rfl)), Lib.hid (fun j hj => by omega)⟩
      case round =>
        obtain ⟨i, rfl, hik2, HM, HA⟩ := hrel
        obtain ⟨a0, a1, a2⟩ := b3 HM.out.ba
        obtain ⟨c0, c1, c2⟩ := b3 HM.out.bb
        cases gk with
        | zero =>
          have e1 : decide (i < bo.size) = false := by simp; omega
          obtain rfl : i = bo.size := by omega
          as_aux_lemma =>
            have hagr : agr d 0 ai bo := HA.out
            have hnr : w.heap.size ≤ gr := by have h1 := HM.out.new; omega
            obtain ⟨r0, r1, r2⟩ := b3 HM.out.br
            have fr := HM.out.br.frozen
            have q0 := fun n x => (set3 HM.out.br n x x x).1
            have q1 := fun n x y => (set3 HM.out.br n x y y).2.1
            have q2 := fun n x y z => (set3 HM.out.br n x y z).2.2
            obtain ⟨t1, ht1⟩ : ∃ t1, t1 = bo.extract 0 d := ⟨_, rfl⟩
            obtain ⟨t2, ht2⟩ : ∃ t2, t2 = bo.extract (d + ai.size - 0) bo.size := ⟨_, rfl⟩
            obtain ⟨t3, ht3⟩ : ∃ t3, t3 = ai.extract 0 0 := ⟨_, rfl⟩
            obtain ⟨t4, ht4⟩ : ∃ t4, t4 = ai.extract (0 + bo.size - d) ai.size := ⟨_, rfl⟩
            have hXY : d = 0 ∨ 0 = 0 := by omega
            have hX : d ≤ bo.size := by omega
            have hY : 0 ≤ ai.size := by omega
            have s1 : t1.size = d := by rw [ht1]; exact size1 hX
            have s3 : t3.size = 0 := by rw [ht3]; exact size1 hY
            have s2 : t2.size = (d + ai.size) - (d + ai.size) := by rw [ht2]; have h := size2 (X := d) (Y := 0) (ai := ai) (bo := bo) hY HE.out; omega
            have s4 : t4.size = (d + ai.size) - bo.size := by rw [ht4]; have h := size2 (X := 0) (Y := d) (E := (d + ai.size)) (ai := bo) (bo := ai) hX (by have := HE.out; omega); omega
            have hs1 : ∀ w, (Instr.slice 69 (.slice (some ⟨gm, 0, none⟩) (d + ai.size) (d + ai.size)) none (some (.int .i64 (d : Int))) none).run Tryd.prog w = .ok (.slice (some ⟨gm, 0, none⟩) d (d + ai.size)) w := fun w => head_slice gm (d + ai.size) d (by omega) w
            have hs3 : ∀ w, (Instr.slice 69 (.slice (some ⟨gm, 0, none⟩) (d + ai.size) (d + ai.size)) none (some (.int .i64 0)) none).run Tryd.prog w = .ok (.slice (some ⟨gm, 0, none⟩) 0 (d + ai.size)) w := fun w => head_slice gm (d + ai.size) 0 (by omega) w
            obtain ⟨o2, hs2, ho2⟩ := tail_slice gm (d + ai.size) (d + ai.size) (by have := HE.out; omega)
            obtain ⟨o4, hs4, ho4⟩ := tail_slice gm (d + ai.size) bo.size (by have := HE.out; omega)
            simp only [Int.natCast_add] at hs2
            obtain ⟨n2, hn2⟩ : ∃ n2, n2 = (d + ai.size) - (d + ai.size) := ⟨_, rfl⟩
            obtain ⟨n4, hn4⟩ : ∃ n4, n4 = (d + ai.size) - bo.size := ⟨_, rfl⟩
            rw [← hn2] at s2 hs2
            rw [← hn4] at s4 hs4
            have cv1 := conv wr gm 0 _ (d + ai.size) t1 s1 (HM.out.bytes 0 t1 (by rw [ht1]; exact read1 hXY hX hY HE.out))
            have cv2 := conv wr gm o2 _ n2 t2 s2 (HM.out.bytes o2 t2 (by rw [ht2]; exact read2 hXY hX hY HE.out o2 (fun h => by have := ho2 (by omega); omega)))
            have cv3 := conv wr gm 0 _ (d + ai.size) t3 s3 (HM.out.bytes 0 t3 (by rw [ht3]; exact read3 hXY hX hY HE.out))
            have cv4 := conv wr gm o4 _ n4 t4 s4 (HM.out.bytes o4 t4 (by rw [ht4]; exact read4 hXY hX hY HE.out o4 (fun h => by have := ho4 (by omega); omega)))
            have cw3 := fun n => conv (wr.drewN n) gm 0 _ (d + ai.size) t3 s3 (((HM.out.drewN n).bytes 0 t3 (by rw [ht3]; exact read3 hXY hX hY HE.out)))
            have cw4 := fun n => conv (wr.drewN n) gm o4 _ n4 t4 s4 ((HM.out.drewN n).bytes o4 t4 (by rw [ht4]; exact read4 hXY hX hY HE.out o4 (fun h => by have := ho4 (by omega); omega)))
            have HT1 := Lib.hid ht1
            have HT2 := Lib.hid ht2
            have HT3 := Lib.hid ht3
            have HT4 := Lib.hid ht4
            have l1 : t1.size ≤ 1000000000000 := by omega
            have l2 : t2.size ≤ 1000000000000 := by omega
            have l3 : t3.size ≤ 1000000000000 := by omega
            have l4 : t4.size ≤ 1000000000000 := by omega
            clear ht1 ht2 ht3 ht4 s1 s2 s3 s4 hn2 hn4 ho2 ho4 hXY hX hY hik hik2
            have ad1 := adds t1 ao (by omega) (by omega)
            have ad2 := adds (t1 ++ ao) t2 (by rw [ByteArray.size_append]; omega) (by omega)
            have ad3 := adds t3 bi (by omega) (by omega)
            have ad4 := adds (t3 ++ bi) t4 (by rw [ByteArray.size_append]; omega) (by omega)
            go_wp2
            go_quiet (fail)
            go_wp2
            go_quiet (fail)
            go_wp2
            (try simp only [Exit.inBlock, Exit.then])
            refine bodyPost_ret (by simp [results, Tryd.results15, go_sem, q0, q1, q2]; try rfl) rfl ?_
            refine ⟨.inl ⟨hagr, ?_⟩, ?_⟩
            · rw [HT1.out, HT2.out, HT3.out, HT4.out]
              rfl
            · repeat' (first | with_reducible exact HM.out.below | with_reducible refine Below.drewN' ?_ _ | with_reducible refine Below.setCell ?_ hnr _)
        | succ k1 =>
          have hi : i < bo.size := by omega
          have e1 : decide (i < bo.size) = true := by simp [hi]
          have hidx := dm_index bo i hi
          have HLT : Hid (i < (d + ai.size)) := Lib.hid (by have := HE.out; omega)
          have xb := HM.out.cellB (i) HLT.out
          have xk := HM.out.cellK (i) HLT.out
          have fb := HM.out.frozenB
          have fk := HM.out.frozenK
          have hlt := HLT.out
          obtain ⟨v, hv⟩ : ∃ v, v = bat bo i := ⟨_, rfl⟩
          rw [← hv] at hidx
          have HV := Lib.hid hv
          clear hv
          obtain ⟨r0, r1, r2⟩ := b3 HM.out.br
          have fr := HM.out.br.frozen
          have hnr : w.heap.size ≤ gr := by have h1 := HM.out.new; omega
          by_cases hk : d ≤ 0 + i ∧ 0 + i < d + ai.size
          · have hbv : btw d 0 ai bo i (i) = bat ai (0 + i - d) := by
              have := btw_at d 0 i ai bo hk.1 hk.2
              rw [Nat.zero_add] at this ⊢
              exact this
            rw [hbv] at xb
            rw [show kn1 d ai.size (i) = true from decide_eq_true (by omega)] at xk
            obtain ⟨u, hu⟩ : ∃ u, u = bat ai (0 + i - d) := ⟨_, rfl⟩
            rw [← hu] at xb
            have HU := Lib.hid hu
            have HK := Lib.hid hk
            clear hu hbv hk
            by_cases huv : u = v
            · subst huv
              have n1 : (u != u) = false := by simp
              as_aux_lemma =>
                go_wp2
                go_quiet (fail)
                go_wp2
                go_roundg k1
                case measure => omega
                case rel =>
                  refine ⟨i + 1, by simp, by omega, Lib.hid ?_, Lib.hid ?_⟩
                  · refine (HM.out.drewN _).setB (i) _ (fun k hk => ?_)
                    rw [btw_next, HV.out, Nat.zero_add]
                  · intro j hj h1 h2
                    by_cases hji : j = i
                    · subst hji
                      rw [← HV.out, ← HU.out]
                    · exact HA.out j (by omega) h1 h2
            · have n1 : (u != v) = true := by simp [huv]
              have n2 : decide (u = v) = false := by simp [huv]
              have HUV := Lib.hid huv
              clear huv
              have q0 := fun n x => (set3 HM.out.br n x x x).1
              have q1 := fun n x y => (set3 HM.out.br n x y y).2.1
              have q2 := fun n x y z => (set3 HM.out.br n x y z).2.2
              as_aux_lemma =>
                go_wp2
                go_quiet (fail)
                go_wp2
                (try simp only [Exit.inBlock, Exit.then])
                refine bodyPost_ret (by simp [results, Tryd.results15, go_sem, q0, q1, q2]; try rfl) rfl ?_
                refine ⟨.inr ⟨fun h => HUV.out ?_, rfl⟩, ?_⟩
                · rw [HU.out, HV.out]
                  exact (h i (by omega) HK.out.1 HK.out.2).symm
                · repeat' (first | with_reducible exact HM.out.below | with_reducible refine Below.drewN' ?_ _ | with_reducible refine Below.setCell ?_ hnr _)
          · rw [show kn1 d ai.size (i) = false from decide_eq_false (by omega)] at xk
            generalize btw d 0 ai bo i (i) = u at xb
            have HK := Lib.hid hk
            clear hk
            as_aux_lemma =>
              go_wp2
              go_quiet (fail)
              go_wp2
              go_roundg k1
              case measure => omega
              case rel =>
                refine ⟨i + 1, by simp, by omega, Lib.hid ?_, Lib.hid ?_⟩
                · refine (HM.out.drewN _).setB (i) _ (fun k hk => ?_)
                  rw [btw_next, HV.out, Nat.zero_add]
                · intro j hj h1 h2
                  by_cases hji : j = i
                  · subst hji
                    exact absurd ⟨h1, h2⟩ HK.out
                  · exact HA.out j (by omega) h1 h2
    | succ k1 =>
      have hi : i < ai.size := by omega
      have e1 : decide (i < ai.size) = true := by simp [hi]
      have hidx := dm_index ai i hi
      have HLT : Hid (d + i < (d + ai.size)) := Lib.hid (by have := HE.out; omega)
      have xb := HM.out.cellB (d + i) HLT.out
      have xk := HM.out.cellK (d + i) HLT.out
      have fb := HM.out.frozenB
      have fk := HM.out.frozenK
      have hlt := HLT.out
      obtain ⟨v, hv⟩ : ∃ v, v = bat ai i := ⟨_, rfl⟩
      rw [← hv] at hidx
      have HV := Lib.hid hv
      clear hv
      generalize bt1 d ai i (d + i) = ub at xb
      generalize kn1 d i (d + i) = uk at xk
      go_wp2
      go_roundg k1
      case measure => omega
      case rel =>
        refine ⟨i + 1, by simp, by omega, Lib.hid ?_⟩
        refine (HM.out.setB (d + i) _ (fun k hk => ?_)).setK (d + i) true (fun k hk => ?_)
        · rw [bt1_next, HV.out]
        · rw [kn1_next]
end Log
end Go.Proofs.YtkpcnfchhnfpoaaDoor
