/- awake: the document's example on a history. -/
import Derived.Test.YtjghfdhahkokhaaDoorHist4
set_option linter.unusedVariables false
namespace Go.Proofs.YtjghfdhahkokhaaDoor
open Go.RowKit Go.Proofs.YtjghfdhahkokhaaDoorW.PrintWords Go.Proofs.YtjghfdhahkokhaaDoor.Sep Go.Proofs.YtjghfdhahkokhaaDoor.Libs
namespace Hist
def s1 : HS := ⟨2, [⟨#[97]⟩], 1, []⟩
def s2 : HS := ⟨2, [⟨#[97]⟩, ⟨#[98]⟩], 2, []⟩
def s3 : HS := ⟨2, [⟨#[98]⟩, ⟨#[99]⟩], 2, []⟩
def s4 : HS := ⟨2, [⟨#[98]⟩, ⟨#[99]⟩], 1, [(2, ⟨#[120]⟩)]⟩
def s5 : HS := ⟨2, [⟨#[98]⟩, ⟨#[99]⟩], 0, [(2, ⟨#[120]⟩), (1, ⟨#[67]⟩)]⟩
def s6 : HS := ⟨2, [⟨#[98]⟩, ⟨#[99]⟩], 1, [(2, ⟨#[120]⟩), (1, ⟨#[67]⟩), (0, ⟨#[98, 98]⟩)]⟩
def s7 : HS := ⟨2, [⟨#[98]⟩, ⟨#[99]⟩], 2, [(2, ⟨#[120]⟩), (0, ⟨#[98, 98]⟩), (1, ⟨#[67]⟩)]⟩
theorem t1 : takes (start 2) ⟨#[97]⟩ = true := by
  simp [takes, start, ByteArray.toList_eq]
  decide
theorem t2 : takes s1 ⟨#[98]⟩ = true := by simp [takes, s1, ByteArray.toList_eq]
theorem t3 : takes s2 ⟨#[99]⟩ = true := by simp [takes, s2, ByteArray.toList_eq]
theorem a1 : add (start 2) ⟨#[97]⟩ = s1 := by unfold add; rw [if_pos t1]; kernel_rfl
theorem a2 : add s1 ⟨#[98]⟩ = s2 := by unfold add; rw [if_pos t2]; kernel_rfl
theorem a3 : add s2 ⟨#[99]⟩ = s3 := by unfold add; rw [if_pos t3]; kernel_rfl
theorem b4 : backT s3 ⟨#[120]⟩ = ⟨#[99]⟩ := by kernel_rfl
theorem c4 : backE s3 = 0 := by kernel_rfl
theorem d4 : back s3 ⟨#[120]⟩ = s4 := by kernel_rfl
theorem b5 : backT s4 ⟨#[67]⟩ = ⟨#[98]⟩ := by kernel_rfl
theorem c5 : backE s4 = 0 := by kernel_rfl
theorem d5 : back s4 ⟨#[67]⟩ = s5 := by kernel_rfl
theorem b6 : forthT s5 ⟨#[98, 98]⟩ = ⟨#[67]⟩ := by kernel_rfl
theorem c6 : forthE s5 = 0 := by kernel_rfl
theorem d6 : forth s5 ⟨#[98, 98]⟩ = s6 := by kernel_rfl
theorem b7 : forthT s6 ⟨#[67]⟩ = ⟨#[120]⟩ := by kernel_rfl
theorem c7 : forthE s6 = 0 := by kernel_rfl
theorem d7 : forth s6 ⟨#[67]⟩ = s7 := by kernel_rfl
theorem len_h {w0 w : World} {b : Nat} {r : Pr} {s : HS} (h : HB w0 w b r s) (n : Nat) (hn : s.ents.length = n) : Calls Tryd.prog 18 #[.pointer (some ⟨b, 0, none⟩)] w fun e w' => e = .returned (.int .i64 n) ∧ w = w' := by
  subst hn
  exact len w b r s h.at_
theorem place_h {w0 w : World} {b : Nat} {r : Pr} {s : HS} (h : HB w0 w b r s) (n : Int) (hn : s.place = n) : Calls Tryd.prog 14 #[.pointer (some ⟨b, 0, none⟩)] w fun e w' => e = .returned (.int .i64 n) ∧ w = w' := by
  subst hn
  exact place w b r s h.at_
theorem drafts_h {w0 w : World} {b : Nat} {r : Pr} {s : HS} (h : HB w0 w b r s) (n : Nat) (hn : s.notes.length = n) : Calls Tryd.prog 20 #[.pointer (some ⟨b, 0, none⟩)] w fun e w' => e = .returned (.int .i64 n) ∧ w = w' := by
  subst hn
  exact drafts w b r s h.at_
theorem bound_h {w0 w : World} {b : Nat} {r : Pr} {s : HS} (h : HB w0 w b r s) (n : Int) (hn : s.bound = n) : Calls Tryd.prog 28 #[.pointer (some ⟨b, 0, none⟩)] w fun e w' => e = .returned (.int .i64 n) ∧ w = w' := by
  subst hn
  exact bound w b r s h.at_
theorem entry_h {w0 w : World} {b : Nat} {r : Pr} {s : HS} (h : HB w0 w b r s) (i : Int) (T : ByteArray) (hT : entryT s i = T) (c : Int) (hc : entryE s i = c) : Calls Tryd.prog 21 #[.pointer (some ⟨b, 0, none⟩), .int .i64 i] w fun e w' => e = .returned (.tuple #[.string T, .int .i64 c]) ∧ w = w' := by
  subst hT; subst hc
  exact entry_ h.at_ h.inv i
set_option maxHeartbeats 3200000 in
theorem awake (w : World) : Calls Tryd.prog 10 #[] w fun e w' => e = .returned (.bool true) ∧ Below w.heap.size w w' := by
  go_enter Tryd.func10, Tryd.ntmps10
  go_wp2_with (first
    | (go_at_call 32; refine (next_a _).mono ?_; rintro e w1 ⟨rfl, hb⟩; have HW := Lib.hid hb; clear hb)
    | (go_at_call 22; refine (new_h (w0 := w) 2 HW.out).mono ?_; rintro e w2 ⟨b, rfl, hp, _, _⟩; have HP0 := Lib.hid hp; clear hp)
    | (go_at_call 24; refine (add_h ⟨#[97]⟩ HP0.out true t1 s1 a1).mono ?_; rintro e w3 ⟨rfl, r1, hp, _, _⟩; have HP1 := Lib.hid hp; clear hp HP0)
    | (go_at_call 24; refine (add_h ⟨#[98]⟩ HP1.out true t2 s2 a2).mono ?_; rintro e w4 ⟨rfl, r2, hp, _, _⟩; have HP2 := Lib.hid hp; clear hp HP1)
    | (go_at_call 24; refine (add_h ⟨#[99]⟩ HP2.out true t3 s3 a3).mono ?_; rintro e w5 ⟨rfl, r3, hp, _, _⟩; have HP3 := Lib.hid hp; clear hp HP2)
    | (go_at_call 18; refine (len_h HP3.out 2 rfl).mono ?_; rintro e w6 ⟨rfl, rfl⟩)
    | (go_at_call 14; refine (place_h HP3.out 2 rfl).mono ?_; rintro e w6 ⟨rfl, rfl⟩)
    | (go_at_call 13; refine (back_h ⟨#[120]⟩ HP3.out ⟨#[99]⟩ b4 0 c4 s4 d4).mono ?_; rintro e w7 ⟨rfl, r4, hp, _, _⟩; have HP4 := Lib.hid hp; clear hp HP3)
    | (go_at_call 13; refine (back_h ⟨#[67]⟩ HP4.out ⟨#[98]⟩ b5 0 c5 s5 d5).mono ?_; rintro e w8 ⟨rfl, r5, hp, _, _⟩; have HP5 := Lib.hid hp; clear hp HP4)
    | (go_at_call 15; refine (forth_h ⟨#[98, 98]⟩ HP5.out ⟨#[67]⟩ b6 0 c6 s6 d6).mono ?_; rintro e w9 ⟨rfl, r6, hp, _, _⟩; have HP6 := Lib.hid hp; clear hp HP5)
    | (go_at_call 15; refine (forth_h ⟨#[67]⟩ HP6.out ⟨#[120]⟩ b7 0 c7 s7 d7).mono ?_; rintro e w10 ⟨rfl, r7, hp, _, _⟩; have HP7 := Lib.hid hp; clear hp HP6))
  go_ret
  exact ⟨rfl, HP7.out.below⟩
end Hist
end Go.Proofs.YtjghfdhahkokhaaDoor
