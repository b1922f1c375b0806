/- The walk of RingRounds: whatever the bound, the texts and the number of pops, it answers true. -/
import Derived.Test.YtlflohbpdapiiaaDoorPlay3
import Derived.Deep.LoopGhost
import Derived.BigQuiet
set_option linter.unusedVariables false
namespace Go.Proofs.YtlflohbpdapiiaaDoor
open Go.RowKit Go.Proofs.YtlflohbpdapiiaaDoorW.PrintWords Go.Proofs.YtlflohbpdapiiaaDoor.Sep Go.Proofs.YtlflohbpdapiiaaDoor.Libs
open Go.Proofs.YtlflohbpdapiiaaDoor.Ring (RS foot joined)
namespace Both
theorem Out.upd {w0 w w' : World} {b : Nat} {v l : Value} {xs : List ByteArray} (h : Out w0 w b v l xs) (hu : Upd (foot b v) w w') : Out w0 w' b v l xs := ⟨h.own.upd hu h.far, h.new, h.far⟩
theorem take_foldl {α β : Type} (f : β → α → β) (z : β) (xs : List α) (i : Nat) (d : α) (hi : i < xs.length) : (xs.take (i + 1)).foldl f z = f ((xs.take i).foldl f z) (xs.getD i d) := by
  rw [List.take_succ_eq_append_getElem hi, List.foldl_append]
  simp [List.getD, hi]
def rk (s : RS) (t : ByteArray) : RS := stop (kill s t false)
theorem rk_state (l : List ByteArray) : ∀ s : RS, s.state = 0 → (l.foldl rk s).state = 0 := by
  induction l with
  | nil => exact fun s h => h
  | cons t l ih => exact fun s h => ih _ rfl
theorem reads_at {W w : World} {A : Option Addr} {l : Nat} {xs : List ByteArray} (hr : Reads W W.heap.size 1 A l (xs.map Value.string)) (hb : Below W.heap.size W w) {i : Nat} (hi : i < l) : ∃ ad, A = some ad ∧ w.cell? (ad.add i) = some (.string (xs.getD i E)) ∧ i < xs.length := by
  obtain ⟨ad, u, rfl, hlt, hu, hc⟩ := hr.at_ hi
  have hl : i < xs.length := by simpa using (List.getElem?_eq_some_iff.1 hu).1
  refine ⟨ad, rfl, ?_, hl⟩
  rw [World.cell?_of_block (hb.block _ (by rw [block_of_add]; exact hlt)), hc]
  simp [hl] at hu
  subst hu
  simp [List.getD, hl]

theorem yank_t {w0 w : World} {b : Nat} {v : Value} {s : RS} (h : PB w0 w b v s) (T : ByteArray) (e' : Int) (s' : RS) (hT : yankT s = T) (hE : yankE s = e') (hs : yank s = s') : Calls Tryd.prog 17 #[.pointer (some ⟨b, 0, none⟩)] w fun e w' => e = .returned (.tuple #[.string T, .int .i64 e']) ∧ PB w0 w' b v s' ∧ Upd (foot b v) w w' := by
  subst hT; subst hE; subst hs
  exact yank_b h
theorem pop_t {w0 w : World} {b : Nat} {v : Value} {s : RS} (h : PB w0 w b v s) (T U : ByteArray) (e' : Int) (s' : RS) (hT : popT s = T) (hU : popU s = U) (hE : popE s = e') (hs : pop s = s') : Calls Tryd.prog 18 #[.pointer (some ⟨b, 0, none⟩)] w fun e w' => e = .returned (.tuple #[.string T, .string U, .int .i64 e']) ∧ PB w0 w' b v s' ∧ Upd (foot b v) w w' := by
  subst hT; subst hU; subst hE; subst hs
  exact pop_b h
theorem yank_ents (s : RS) : (yank s).ents = s.ents := by unfold yank; split <;> rfl
theorem tn (i n : Nat) : (((i : Nat) : Int) % (n : Int)).toNat = i % n := by rw [show ((i : Int) % (n : Int)) = ((i % n : Nat) : Int) from (Int.natCast_emod i n).symm]; exact Int.toNat_natCast _
theorem mod_step (i n : Nat) (hn : 0 < n) : ((i : Int) % n + 1) % n = (((i + 1 : Nat) : Int)) % n := by
  rw [Int.emod_add_emod]; simp
/-- The state in which i pops have been made. -/
def popped (s : RS) (i : Nat) : RS := { s with state := 2, place := (i : Int) % s.ents.length }
set_option maxHeartbeats 1600000 in
theorem rounds (W : World) (n : Int) (A : Option Addr) (l c : Nat) (xs : List ByteArray) (p : Nat) (hp : p < 256) (hr : Reads W W.heap.size 1 A l (xs.map Value.string)) (hlc : l ≤ c) (hl : l ≤ 10000000000000) :
    Calls Tryd.prog 4 #[.int .i64 n, .slice A l c, .int .u8 p] W fun e W' => e = .returned (.bool true) ∧ Below W.heap.size W W' := by
  have HR := Lib.hid hr
  have HX : xs.length = l := by simpa using hr.1
  clear hr
  go_enter Tryd.func4, Tryd.ntmps4
  go_wp2_with (first
    | (go_at_call 9; refine (kills W).mono ?_; rintro e w1 ⟨rfl, hb⟩; have HW := Lib.hid hb; clear hb)
    | (go_at_call 10; refine (new_b W _ n HW.out).mono ?_; rintro e w2 ⟨b, rfl, hp0⟩; have HP0 := Lib.hid hp0; clear hp0 HW))
  go_loopg [27] l (fun k v27 w' => ∃ i : Nat, v27 = .int .i64 i ∧ i + k = l ∧ ∃ v, Hid (PB W w' b v ((xs.take i).foldl rk (start n))))
  case atStart => exact ⟨0, rfl, by omega, _, HP0⟩
  case round =>
    clear HP0
    obtain ⟨i, rfl, hik, v, HP⟩ := hrel
    cases gk with
    | succ k1 =>
      have hi : i < l := by omega
      have e1 : decide ((i : Int) < (l : Int)) = true := by simp [hi]
      obtain ⟨ad, rfl, hcell, hi2⟩ := reads_at HR.out HP.out.below hi
      have hst : ((xs.take i).foldl rk (start n)).state = 0 := rk_state _ _ rfl
      have HZ : Hid (((xs.take i).foldl rk (start n)).state = 0) := Lib.hid hst
      have HS : Hid ((xs.take (i + 1)).foldl rk (start n) = rk ((xs.take i).foldl rk (start n)) (xs.getD i E)) := Lib.hid (take_foldl _ _ _ _ _ hi2)
      generalize hs0 : (xs.take i).foldl rk (start n) = s0 at *
      generalize ht0 : xs.getD i E = t0 at *
      clear hst hs0 ht0
      go_wp2_with (first
        | (go_at_call 13; refine (kill_b t0 false HP.out (fun h => by rw [HZ.out] at h; simp at h) _ rfl _ rfl).mono ?_; rintro e w3 ⟨rfl, v1, hp1⟩; have HP1 := Lib.hid hp1; clear hp1)
        | (go_at_call 16; refine (stop_b HP1.out).mono ?_; rintro e w4 ⟨rfl, hp2⟩; have HP2 := Lib.hid hp2; clear hp2 HP1))
      go_roundg k1
      case measure => omega
      case rel => exact ⟨i + 1, by simp, by omega, v1, by rw [HS.out]; exact HP2⟩
    | zero =>
      have e0 : i = xs.length := by omega
      have e1 : decide ((i : Int) < (l : Int)) = false := by simp; omega
      have hst : ((xs.take i).foldl rk (start n)).state = 0 := rk_state _ _ rfl
      generalize hs0 : (xs.take i).foldl rk (start n) = s at *
      have hlen : s.ents.length ≤ 1000 := by have := HP.out.inv.len; have := HP.out.inv.b1; omega
      clear hs0 e0
      by_cases h0 : s.ents.length = 0
      · have HT : Hid (yankT s = ⟨#[]⟩ ∧ yankE s = 5 ∧ yank s = s) := Lib.hid ⟨if_pos h0, if_pos h0, by unfold yank; rw [if_pos h0]; cases s; simp at hst; subst hst; rfl⟩
        have HU : Hid (popT s = ⟨#[]⟩ ∧ popU s = ⟨#[]⟩ ∧ popE s = 6) := Lib.hid ⟨if_neg (by omega), if_neg (by omega), if_neg (by omega)⟩
        have HL := Lib.hid h0
        clear h0 hst
        go_wp2_with (first
          | (go_at_call 12; refine (all_b HP.out).mono ?_; rintro e w3 ⟨l0, rfl, ho, hp1, hb1⟩; obtain ⟨A', c', rfl, hl'⟩ := ho.own.form; rw [HL.out] at *; have HP1 := Lib.hid hp1; clear ho hp1 hb1 hl')
          | (go_at_call 17; refine (yank_t HP1.out _ _ _ HT.out.1 HT.out.2.1 HT.out.2.2).mono ?_; rintro e w4 ⟨rfl, hp2, hu2⟩; have HP2 := Lib.hid hp2; clear hp2 hu2)
          | (go_at_call 18; refine (pop_t HP2.out _ _ _ _ HU.out.1 HU.out.2.1 HU.out.2.2 rfl).mono ?_; rintro e w5 ⟨rfl, hp3, hu3⟩; have HP3 := Lib.hid hp3; clear hp3 hu3))
        go_ret
        exact ⟨rfl, HP3.out.below⟩
      · have h1 : 0 < s.ents.length := by omega
        have HT : Hid (yankT s = s.ents.getD 0 E ∧ yankE s = 0 ∧ yank s = popped s 0) := Lib.hid ⟨if_neg h0, if_neg h0, by unfold yank; rw [if_neg h0]; simp [popped]⟩
        have hm0 : ¬ ((s.ents.length : Int) = 0) := by omega
        have hm1 : ((s.ents.length : Int) == 0) = false := by rw [beq_eq_false_iff_ne]; omega
        have hm2 : min (s.ents.length : Int) 100 ≤ 100 := by omega
        have hm3 : 0 ≤ min (s.ents.length : Int) 100 := by omega
        generalize hx : s.ents.getD 0 E = x at *
        have HX0 := Lib.hid hx
        clear hx h0
        go_wp2_with (first
          | (go_at_call 12; refine (all_b HP.out).mono ?_; rintro e w3 ⟨l0, rfl, ho, hp1, hb1⟩; obtain ⟨g, c', rfl, hl', hcell, hfr⟩ := ho.own.some_ h1; have hc0 := hcell 0 h1; rw [show s.ents.getD 0 ByteArray.empty = x from HX0.out] at hc0; have HO1 := Lib.hid ho; have HP1 := Lib.hid hp1; clear ho hp1 hb1 hcell hfr)
          | (go_at_call 17; refine (yank_t HP1.out _ _ _ HT.out.1 HT.out.2.1 HT.out.2.2).mono ?_; rintro e w4 ⟨rfl, hp2, hu2⟩; have HP2 := Lib.hid hp2; have HO2 := Lib.hid (HO1.out.upd hu2); have hc1 := hu2.cell hc0 (HO1.out.far g rfl); clear hp2 hu2 hc0))
        go_loopg [79] (p + 2 * min s.ents.length 100) (fun k v79 w' => ∃ i : Nat, v79 = .int .i64 i ∧ i + k = p + 2 * min s.ents.length 100 ∧ Hid (PB W w' b v (popped s i)) ∧ Hid (Out W w' b v (.slice (some ⟨g, 0, none⟩) s.ents.length c') s.ents))
        case atStart => exact ⟨0, rfl, by omega, HP2, HO2⟩
        case round =>
          clear HP1 HP2 HO1 HO2 hc1 HP
          obtain ⟨i, rfl, hik, HP, HO⟩ := hrel
          cases gk with
          | succ k1 =>
            have e2 : decide ((i : Int) < (p : Int) + 2 * min (s.ents.length : Int) 100) = true := by rw [decide_eq_true_eq]; omega
            have hq : pop (popped s i) = popped s (i + 1) := by
              unfold pop popped
              rw [if_pos rfl]
              simp only [mod_step i s.ents.length h1]
            have q0 : 0 ≤ (i : Int) % (s.ents.length : Int) := Int.emod_nonneg _ hm0
            have q1 : (i : Int) % (s.ents.length : Int) < (s.ents.length : Int) := Int.emod_lt_of_pos _ (by omega)
            have r0 : 0 ≤ ((i : Int) + 1) % (s.ents.length : Int) := Int.emod_nonneg _ hm0
            have r1 : ((i : Int) + 1) % (s.ents.length : Int) < (s.ents.length : Int) := Int.emod_lt_of_pos _ (by omega)
            have HT2 : Hid (popT (popped s i) = s.ents.getD (i % s.ents.length) E ∧ popU (popped s i) = s.ents.getD ((i + 1) % s.ents.length) E ∧ popE (popped s i) = 0 ∧ pop (popped s i) = popped s (i + 1)) := by
              refine Lib.hid ⟨(if_pos rfl).trans (by simp only [popped]; rw [tn]), ?_, if_pos rfl, hq⟩
              unfold popU
              rw [if_pos (show (popped s i).state = 2 from rfl)]
              have := mod_step i s.ents.length h1
              simp only [popped, this]
              rw [tn]
            obtain ⟨g', c2, he, _, hcell, hfr⟩ := HO.out.own.some_ h1
            injection he with he _ he2
            injection he with he
            injection he with he
            subst he; subst he2
            have d0 := hcell (i % s.ents.length) (Nat.mod_lt _ h1)
            have d1 := hcell ((i + 1) % s.ents.length) (Nat.mod_lt _ h1)
            generalize s.ents.getD (i % s.ents.length) ByteArray.empty = y at *
            generalize s.ents.getD ((i + 1) % s.ents.length) ByteArray.empty = z at *
            clear hcell hfr hq
            go_wp2_with (first
              | (go_at_call 18; refine (pop_t HP.out _ _ _ _ HT2.out.1 HT2.out.2.1 HT2.out.2.2.1 HT2.out.2.2.2).mono ?_; rintro e w5 ⟨rfl, hp3, hu3⟩; have HP3 := Lib.hid hp3; have HO3 := Lib.hid (HO.out.upd hu3); have f0 := hu3.cell d0 (HO.out.far g rfl); have f1 := hu3.cell d1 (HO.out.far g rfl); clear hp3 hu3 d0 d1))
            go_roundg k1
            case measure => omega
            case rel => exact ⟨i + 1, by simp, by omega, HP3, HO3⟩
          | zero =>
            have HN : Hid ((yank (popped s i)).ents.length ≤ 100000) := Lib.hid (by rw [yank_ents]; show s.ents.length ≤ 100000; omega)
            have HY : Hid ((yank (popped s i)).ents = s.ents) := Lib.hid (yank_ents _)
            have e2 : decide ((i : Int) < (p : Int) + 2 * min (s.ents.length : Int) 100) = false := by rw [decide_eq_false_iff_not]; omega
            have HT2 : Hid (yankT (popped s i) = x ∧ yankE (popped s i) = 0) := Lib.hid ⟨(if_neg (show ¬ s.ents.length = 0 by omega)).trans HX0.out, if_neg (show ¬ s.ents.length = 0 by omega)⟩
            go_wp2_with (first
              | (go_at_call 17; refine (yank_t HP.out _ _ _ HT2.out.1 HT2.out.2 rfl).mono ?_; rintro e w5 ⟨rfl, hp3, hu3⟩; have HP3 := Lib.hid hp3; have HO3 := Lib.hid (HO.out.upd hu3); clear hp3 hu3)
              | (go_at_call 12; refine (all_b HP3.out).mono ?_; rintro e w6 ⟨l1, rfl, ho, hp4, hb4⟩; have HP4 := Lib.hid hp4; have HO4 := Lib.hid ho.own; have HO5 := Lib.hid (HO3.out.own.upd (Upd.below hb4 No) (fun _ _ h => h)); clear ho hp4 hb4)
              | (go_at_call 14; refine (Ref.same _ _ _ _ _ HO4.out HO5.out HN.out).mono ?_; rintro e w7 ⟨rfl, ⟨m, rfl⟩⟩; have hdd : decide ((yank (popped s i)).ents = s.ents) = true := decide_eq_true HY.out))
            go_ret
            exact ⟨by simp, HP4.out.below.os, HP4.out.below.tape, HP4.out.below.output, HP4.out.below.size, HP4.out.below.block⟩
theorem u8_nat {p : Int} (h : (Lit.int .u8 p).wf = true) : ∃ k : Nat, p = k ∧ k < 256 := by
  have h' : (decide (IntKind.u8.min ≤ p) && decide (p ≤ IntKind.u8.max)) = true := h
  rw [Bool.and_eq_true, decide_eq_true_eq, decide_eq_true_eq] at h'
  have e1 : IntKind.u8.min = 0 := by rfl
  have e2 : IntKind.u8.max = 255 := by rfl
  exact ⟨p.toNat, by omega, by omega⟩
theorem rounds_walk (W : World) (n : Int) (wn : (Lit.int .i64 n).wf = true) (A : Option Addr) (l c : Nat) (xs : List ByteArray) (hr : Reads W W.heap.size 1 A l (xs.map Value.string)) (hc : l ≤ c) (hm : ∀ u ∈ xs, u.size ≤ maxLen) (y : l * 16 ≤ reachBytes) (p : Int) (wp : (Lit.int .u8 p).wf = true) :
    Calls Tryd.prog 4 #[.int .i64 n, .slice A l c, .int .u8 p] W fun e W' => e = .returned (.bool true) ∧ Below W.heap.size W W' := by
  obtain ⟨k, rfl, hk⟩ := u8_nat wp
  have h1 : l ≤ 10000000000000 := by have : reachBytes = 140737488351232 := by rfl
                                     omega
  exact rounds W n A l c xs k hk hr hc h1
end Both
end Go.Proofs.YtlflohbpdapiiaaDoor
