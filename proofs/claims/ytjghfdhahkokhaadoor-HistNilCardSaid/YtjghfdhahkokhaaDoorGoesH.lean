/- The walk of HistGoes: Go to a place and back. -/
import Derived.Test.YtjghfdhahkokhaaDoorWalksH
set_option linter.unusedVariables false
namespace Go.Proofs.YtjghfdhahkokhaaDoor
open Go.RowKit Go.Proofs.YtjghfdhahkokhaaDoorW.PrintWords Go.Proofs.YtjghfdhahkokhaaDoor.Sep Go.Proofs.YtjghfdhahkokhaaDoor.Libs
namespace Hist
theorem goes_1 {s : HS} (h : Still s) {p : Int} (now : ByteArray) (h0 : 0 ≤ p) (h1 : p < (s.ents.length : Int)) :
    ∃ sa sb sc : HS, go s p now = sa ∧ goT s p now = s.ents.getD p.toNat E ∧ goE s p = 0 ∧ sa.place = p ∧ sa.notes.length = 1 ∧ entryT sa p = s.ents.getD p.toNat E ∧ entryE sa p = 0 ∧
      go sa s.ents.length ⟨#[116, 104, 101, 114, 101]⟩ = sb ∧ goT sa s.ents.length ⟨#[116, 104, 101, 114, 101]⟩ = now ∧ goE sa s.ents.length = 0 ∧
      go sb p now = sc ∧ goT sb p now = ⟨#[116, 104, 101, 114, 101]⟩ ∧ goE sb p = 0 ∧ sc.notes.length = 2 := by
  obtain ⟨hpl, hno⟩ := h
  obtain ⟨bd, ents, pl, notes⟩ := s
  dsimp only at *
  subst hpl; subst hno
  have hc : 0 ≤ p ∧ p ≤ (ents.length : Int) := ⟨h0, by omega⟩
  have hn : 0 ≤ (ents.length : Int) ∧ (ents.length : Int) ≤ (ents.length : Int) := ⟨by omega, by omega⟩
  have hne : ¬ (ents.length : Int) = p := by omega
  have hne2 : ¬ p = (ents.length : Int) := by omega
  refine ⟨⟨bd, ents, p, [(ents.length, now)]⟩, ⟨bd, ents, ents.length, [(ents.length, now), (p, ⟨#[116, 104, 101, 114, 101]⟩)]⟩, ⟨bd, ents, p, [(p, ⟨#[116, 104, 101, 114, 101]⟩), (ents.length, now)]⟩, ?_, ?_, ?_, rfl, rfl, ?_, ?_, ?_, ?_, ?_, ?_, ?_, ?_, rfl⟩
  · simp [go, gone, put, strike, hc]
  · simp [goT, gone, put, strike, hc, textAt, look, hne, h1]
  · simp [goE, hc]
  · simp [entryT, h0, h1]
  · simp [entryE, h0, h1]
  · simp [go, gone, put, strike, hne]
  · simp [goT, gone, put, strike, textAt, look, hne]
  · simp [goE]
  · simp [go, gone, put, strike, hc, hne2]
  · simp [goT, gone, put, strike, hc, textAt, look, hne2]
  · simp [goE, hc]
theorem goes_n {s : HS} (h : Still s) (now : ByteArray) :
    ∃ sa : HS, go s s.ents.length now = sa ∧ goT s s.ents.length now = now ∧ goE s s.ents.length = 0 ∧ sa.place = s.ents.length ∧ sa.notes.length = 1 := by
  obtain ⟨hpl, hno⟩ := h
  obtain ⟨bd, ents, pl, notes⟩ := s
  dsimp only at *
  subst hpl; subst hno
  refine ⟨⟨bd, ents, ents.length, [(ents.length, now)]⟩, ?_, ?_, ?_, rfl, rfl⟩
  · simp [go, gone, put, strike]
  · simp [goT, gone, put, strike, textAt, look]
  · simp [goE]
theorem goes_o {s : HS} (h : Still s) {p : Int} (now : ByteArray) (hp : p < 0 ∨ (s.ents.length : Int) < p) :
    go s p now = s ∧ goT s p now = ⟨#[]⟩ ∧ goE s p = 1 := by
  have hc : ¬ (0 ≤ p ∧ p ≤ (s.ents.length : Int)) := by omega
  exact ⟨if_neg hc, if_neg hc, if_neg hc⟩
set_option maxHeartbeats 6400000 in
set_option maxRecDepth 100000 in
theorem goes (W : World) (n : Int) (A : Option Addr) (l c : Nat) (xs : List ByteArray) (hr : Reads W W.heap.size 1 A l (xs.map Value.string)) (hlc : l ≤ c) (hl : l ≤ 10000000000000) (p : Int) (now : ByteArray) :
    Calls Tryd.prog 4 #[.int .i64 n, .slice A l c, .int .i64 p, .string now] W fun e W' => e = .returned (.bool true) ∧ Below W.heap.size W W' := by
  have HR := Lib.hid hr
  have HST := Lib.hid (Still.fill n xs)
  clear hr
  obtain ⟨s0, hs0⟩ : ∃ s0, s0 = fill n xs := ⟨_, rfl⟩
  rw [← hs0] at HST
  have HF : Hid (∀ w, Below W.heap.size W w → Calls Tryd.prog 11 #[.int .i64 n, .slice A l c] w fun e w' => ∃ b r, e = .returned (.pointer (some ⟨b, 0, none⟩)) ∧ HB W w' b r s0) := Lib.hid (fun w hb => by rw [hs0]; exact filled W w n A l c xs hb HR.out hlc hl)
  clear hs0
  by_cases hp : p < 0 ∨ (s0.ents.length : Int) < p
  · have HG := Lib.hid (goes_o HST.out now hp)
    have hcase : p < 0 ∨ (¬ p < 0 ∧ (s0.ents.length : Int) < p) := by omega
    clear hp
    rcases hcase with h1 | ⟨h1, h2⟩
    all_goals
      go_enter Tryd.func4, Tryd.ntmps4
      go_wp2_with (first
        | (go_at_call 10; refine (awake W).mono ?_; rintro e w1 ⟨rfl, hb⟩; have HW := Lib.hid hb; clear hb)
        | (go_at_call 11; refine (HF.out _ HW.out).mono ?_; rintro e w2 ⟨b, r, rfl, hp⟩; have HP0 := Lib.hid hp; clear hp)
        | (go_at_call 18; refine (len_h HP0.out _ rfl).mono ?_; rintro e w3 ⟨rfl, rfl⟩)
        | (go_at_call 19; refine (go_h p now HP0.out ⟨#[]⟩ HG.out.2.1 1 HG.out.2.2 s0 HG.out.1).mono ?_; rintro e w4 ⟨rfl, r1, hp, hu, hf⟩; have HP1 := Lib.hid hp; clear hp hu hf HP0)
        | (go_at_call 14; refine (place_h HP1.out (s0.ents.length : Int) HST.out.pl).mono ?_; rintro e w5 ⟨rfl, rfl⟩)
        | (go_at_call 20; refine (drafts_h HP1.out 0 (by rw [HST.out.no]; rfl)).mono ?_; rintro e w6 ⟨rfl, rfl⟩))
      go_ret
      exact ⟨by simp, HP1.out.below⟩
  · by_cases hpn : p = (s0.ents.length : Int)
    · subst hpn
      obtain ⟨sa, hg⟩ := goes_n HST.out now
      have HG := Lib.hid hg
      clear hg hp
      go_enter Tryd.func4, Tryd.ntmps4
      go_wp2_with (first
        | (go_at_call 10; refine (awake W).mono ?_; rintro e w1 ⟨rfl, hb⟩; have HW := Lib.hid hb; clear hb)
        | (go_at_call 11; refine (HF.out _ HW.out).mono ?_; rintro e w2 ⟨b, r, rfl, hp⟩; have HP0 := Lib.hid hp; clear hp)
        | (go_at_call 18; refine (len_h HP0.out _ rfl).mono ?_; rintro e w3 ⟨rfl, rfl⟩)
        | (go_at_call 19; refine (go_h _ now HP0.out now HG.out.2.1 0 HG.out.2.2.1 sa HG.out.1).mono ?_; rintro e w4 ⟨rfl, r1, hp, hu, hf⟩; have HP1 := Lib.hid hp; clear hp hu hf HP0)
        | (go_at_call 14; refine (place_h HP1.out (s0.ents.length : Int) HG.out.2.2.2.1).mono ?_; rintro e w5 ⟨rfl, rfl⟩)
        | (go_at_call 20; refine (drafts_h HP1.out 1 HG.out.2.2.2.2).mono ?_; rintro e w6 ⟨rfl, rfl⟩))
      go_ret
      exact ⟨by simp, HP1.out.below⟩
    · have h0 : 0 ≤ p := by omega
      have h1 : p < (s0.ents.length : Int) := by omega
      obtain ⟨sa, sb, sc, hg⟩ := goes_1 HST.out now h0 h1
      have HG := Lib.hid hg
      have hz : (p == (s0.ents.length : Int)) = false := by simp [hpn]
      clear hg hp
      generalize s0.ents.getD p.toNat E = y at *
      go_enter Tryd.func4, Tryd.ntmps4
      go_wp2_with (first
        | (go_at_call 10; refine (awake W).mono ?_; rintro e w1 ⟨rfl, hb⟩; have HW := Lib.hid hb; clear hb)
        | (go_at_call 11; refine (HF.out _ HW.out).mono ?_; rintro e w2 ⟨b, r, rfl, hp⟩; have HP0 := Lib.hid hp; clear hp)
        | (go_at_call 18; refine (len_h HP0.out _ rfl).mono ?_; rintro e w3 ⟨rfl, rfl⟩)
        | (go_at_call 19; refine (go_h p now HP0.out y HG.out.2.1 0 HG.out.2.2.1 sa HG.out.1).mono ?_; rintro e w4 ⟨rfl, r1, hp, hu, hf⟩; have HP1 := Lib.hid hp; clear hp hu hf HP0)
        | (go_at_call 14; refine (place_h HP1.out p HG.out.2.2.2.1).mono ?_; rintro e w5 ⟨rfl, rfl⟩)
        | (go_at_call 20; refine (drafts_h HP1.out 1 HG.out.2.2.2.2.1).mono ?_; rintro e w6 ⟨rfl, rfl⟩)
        | (go_at_call 21; refine (entry_h HP1.out p y HG.out.2.2.2.2.2.1 0 HG.out.2.2.2.2.2.2.1).mono ?_; rintro e w7 ⟨rfl, rfl⟩)
        | (go_at_call 19; refine (go_h (s0.ents.length : Int) ⟨#[116, 104, 101, 114, 101]⟩ HP1.out now HG.out.2.2.2.2.2.2.2.2.1 0 HG.out.2.2.2.2.2.2.2.2.2.1 sb HG.out.2.2.2.2.2.2.2.1).mono ?_; rintro e w8 ⟨rfl, r2, hp, hu, hf⟩; have HP2 := Lib.hid hp; clear hp hu hf HP1)
        | (go_at_call 19; refine (go_h p now HP2.out ⟨#[116, 104, 101, 114, 101]⟩ HG.out.2.2.2.2.2.2.2.2.2.2.2.1 0 HG.out.2.2.2.2.2.2.2.2.2.2.2.2.1 sc HG.out.2.2.2.2.2.2.2.2.2.2.1).mono ?_; rintro e w9 ⟨rfl, r3, hp, hu, hf⟩; have HP3 := Lib.hid hp; clear hp hu hf HP2)
        | (go_at_call 20; refine (drafts_h HP3.out 2 HG.out.2.2.2.2.2.2.2.2.2.2.2.2.2).mono ?_; rintro e w10 ⟨rfl, rfl⟩))
      go_ret
      exact ⟨by simp, HP3.out.below⟩
theorem goes_row (W : World) (n : Int) (wn : (Lit.int .i64 n).wf = true) (A : Option Addr) (l c : Nat) (xs : List ByteArray) (hr : Reads W W.heap.size 1 A l (xs.map Value.string)) (hlc : l ≤ c) (hm : ∀ u ∈ xs, u.size ≤ maxLen) (y : l * 16 ≤ reachBytes) (p : Int) (wp : (Lit.int .i64 p).wf = true) (now : ByteArray) (hnow : now.size ≤ maxLen) :
    Calls Tryd.prog 4 #[.int .i64 n, .slice A l c, .int .i64 p, .string now] W fun e W' => e = .returned (.bool true) ∧ Below W.heap.size W W' := by
  have e : reachBytes = 140737488351232 := by rfl
  exact goes W n A l c xs hr hlc (by omega) p now
end Hist
end Go.Proofs.YtjghfdhahkokhaaDoor
