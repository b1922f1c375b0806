/- Plain facts on tables of ranges: what the binary search answers over a table that rises is whether one of its ranges holds the number. -/
import Derived.Test.YtdcbgaikakhadaaWithin
namespace Go.Proofs.Ytdcbgaikakhadaa.Core
open Go.RowKit Go.Proofs.YtdcbgaikakhadaaW.PrintWords Go.Proofs.Ytdcbgaikakhadaa.Within

def pairs : List Int → List (Int × Int)
  | a :: b :: r => (a, b) :: pairs r
  | _ => []
def inside (l : List Int) (c : Int) : Bool := (pairs l).any fun p => decide (p.1 ≤ c) && decide (c ≤ p.2)
/-- The numbers rise, and strictly from a range to the next. -/
def okTab : List Int → Bool
  | a :: b :: a' :: r => decide (a ≤ b) && decide (b < a') && okTab (a' :: r)
  | [a, b] => decide (a ≤ b)
  | [_] => false
  | [] => true

theorem srch_spec (p : Int → Bool) : ∀ k i j, (j - i).toNat ≤ k → i ≤ j → (∀ a b, i ≤ a → a ≤ b → b < j → p a = true → p b = true) →
    (∀ x, i ≤ x → x < srch p k i j → p x = false) ∧ (srch p k i j < j → p (srch p k i j) = true)
  | 0, i, j, hk, hij, _ => by
    have : i = j := by omega
    subst this
    exact ⟨fun x h1 h2 => by simp only [srch] at h2; omega, fun h => by simp only [srch] at h; omega⟩
  | k + 1, i, j, hk, hij, hm => by
    by_cases h : i < j
    · by_cases hp : p ((i + j) / 2) = true
      · have e : srch p (k + 1) i j = srch p k i ((i + j) / 2) := by simp only [srch]; rw [if_pos h, if_pos hp]
        obtain ⟨h1, h2⟩ := srch_spec p k i ((i + j) / 2) (by omega) (by omega) (fun a b ha hab hb => hm a b ha hab (by omega))
        rw [e]
        refine ⟨h1, fun _ => ?_⟩
        have hle := srch_le p k i ((i + j) / 2) (by omega)
        by_cases hlt : srch p k i ((i + j) / 2) < (i + j) / 2
        · exact h2 hlt
        · rw [show srch p k i ((i + j) / 2) = (i + j) / 2 by omega]; exact hp
      · have e : srch p (k + 1) i j = srch p k ((i + j) / 2 + 1) j := by simp only [srch]; rw [if_pos h, if_neg hp]
        obtain ⟨h1, h2⟩ := srch_spec p k ((i + j) / 2 + 1) j (by omega) (by omega) (fun a b ha hab hb => hm a b (by omega) hab hb)
        rw [e]
        refine ⟨fun x hx1 hx2 => ?_, h2⟩
        by_cases hx : (i + j) / 2 + 1 ≤ x
        · exact h1 x hx hx2
        · cases hpx : p x with
          | false => rfl
          | true => exact absurd (hm x ((i + j) / 2) hx1 (by omega) (by omega) hpx) hp
    · have : i = j := by omega
      subst this
      have e : srch p (k + 1) i i = i := srch_done p _ i i (by omega)
      rw [e]
      exact ⟨fun x h1 h2 => by omega, fun h => by omega⟩

theorem pairs_len : ∀ l : List Int, (pairs l).length = l.length / 2
  | [] => rfl
  | [_] => by simp [pairs]
  | a :: b :: r => by simp only [pairs, List.length_cons, pairs_len r]; omega

theorem pairs_get : ∀ (l : List Int) (j : Nat), j < l.length / 2 → (pairs l)[j]? = some (l.getD (2 * j) 0, l.getD (2 * j + 1) 0)
  | [], j, h => by simp at h
  | [_], j, h => by simp at h
  | a :: b :: r, 0, h => rfl
  | a :: b :: r, j + 1, h => by
    simp only [List.length_cons] at h
    have := pairs_get r j (by omega)
    simp only [pairs, List.getElem?_cons_succ, this]
    rw [show 2 * (j + 1) = 2 * j + 1 + 1 by omega, show 2 * j + 1 + 1 + 1 = (2 * j + 1) + 1 + 1 by omega]
    simp [List.getD]

theorem ok_at : ∀ (l : List Int), okTab l = true → ∀ j, j < l.length / 2 → l.getD (2 * j) 0 ≤ l.getD (2 * j + 1) 0 ∧ (j + 1 < l.length / 2 → l.getD (2 * j + 1) 0 < l.getD (2 * (j + 1)) 0)
  | [], _, j, h => by simp at h
  | [_], _, j, h => by simp at h
  | [a, b], hk, j, h => by
    have : j = 0 := by simp at h; omega
    subst this
    simp [okTab] at hk
    exact ⟨by simpa using hk, fun h => by simp at h⟩
  | a :: b :: a' :: r, hk, j, h => by
    simp only [okTab, Bool.and_eq_true, decide_eq_true_eq] at hk
    cases j with
    | zero => exact ⟨by simpa using hk.1.1, fun _ => by simpa using hk.1.2⟩
    | succ j =>
      simp only [List.length_cons] at h
      have := ok_at (a' :: r) hk.2 j (by simp only [List.length_cons]; omega)
      refine ⟨?_, fun hj => ?_⟩
      · have h1 := this.1
        rw [show 2 * (j + 1) = 2 * j + 1 + 1 by omega]
        simpa [List.getD] using h1
      · have h2 := this.2 (by simp only [List.length_cons] at hj ⊢; omega)
        rw [show 2 * (j + 1) + 1 = 2 * j + 1 + 1 + 1 by omega, show 2 * (j + 1 + 1) = 2 * (j + 1) + 1 + 1 by omega]
        simpa [List.getD] using h2

theorem ok_rise (l : List Int) (hk : okTab l = true) : ∀ d i, i + d + 1 < l.length / 2 → l.getD (2 * i + 1) 0 < l.getD (2 * (i + d + 1)) 0
  | 0, i, h => (ok_at l hk i (by omega)).2 h
  | d + 1, i, h => by
    have h1 := ok_rise l hk d i (by omega)
    have h2 := ok_at l hk (i + d + 1) (by omega)
    have h3 := h2.2 h
    have h4 := h2.1
    have e : i + (d + 1) + 1 = i + d + 1 + 1 := by omega
    rw [e]
    omega

theorem inside_iff (l : List Int) (c : Int) : inside l c = true ↔ ∃ j, j < l.length / 2 ∧ l.getD (2 * j) 0 ≤ c ∧ c ≤ l.getD (2 * j + 1) 0 := by
  unfold inside
  rw [List.any_eq_true]
  constructor
  · rintro ⟨p, hp, hc⟩
    obtain ⟨j, hj, e⟩ := List.mem_iff_getElem.1 hp
    rw [pairs_len] at hj
    have := pairs_get l j hj
    rw [List.getElem?_eq_getElem (by rw [pairs_len]; exact hj), e] at this
    obtain rfl := Option.some.inj this
    simp only [Bool.and_eq_true, decide_eq_true_eq] at hc
    exact ⟨j, hj, hc⟩
  · rintro ⟨j, hj, h1, h2⟩
    exact ⟨_, List.mem_of_getElem? (pairs_get l j hj), by simp only [Bool.and_eq_true, decide_eq_true_eq]; exact ⟨h1, h2⟩⟩

theorem rd_nat (l : List Int) (j : Nat) : rd l (2 * (j : Int)) = l.getD (2 * j) 0 ∧ rd l (2 * (j : Int) + 1) = l.getD (2 * j + 1) 0 := by
  unfold rd
  exact ⟨by congr 1, by congr 1⟩

theorem withinF_eq (l : List Int) (c : Int) (hk : okTab l = true) : withinF l c = inside l c := by
  have hmono : ∀ a b : Int, 0 ≤ a → a ≤ b → b < (l.length : Int) / 2 → pt l c a = true → pt l c b = true := by
    intro a b ha hab hb h
    obtain ⟨a, rfl⟩ := Int.eq_ofNat_of_zero_le ha
    obtain ⟨b, rfl⟩ := Int.eq_ofNat_of_zero_le (by omega : 0 ≤ b)
    unfold pt at h ⊢
    rw [(rd_nat l a).2] at h
    rw [(rd_nat l b).2]
    simp only [decide_eq_true_eq] at h ⊢
    by_cases e : a = b
    · subst e; exact h
    · have h1 := ok_rise l hk (b - a - 1) a (by omega)
      have h2 := (ok_at l hk b (by omega)).1
      rw [show a + (b - a - 1) + 1 = b by omega] at h1
      omega
  obtain ⟨h1, h2⟩ := srch_spec (pt l c) ((l.length : Int) / 2).toNat 0 ((l.length : Int) / 2) (by omega) (by omega) hmono
  have hle := srch_le (pt l c) ((l.length : Int) / 2).toNat 0 ((l.length : Int) / 2) (by omega)
  change (∀ x, 0 ≤ x → x < place l c → pt l c x = false) at h1
  change (place l c < _ → pt l c (place l c) = true) at h2
  change 0 ≤ place l c ∧ place l c ≤ _ at hle
  unfold withinF
  generalize place l c = i at h1 h2 hle
  obtain ⟨i, rfl⟩ := Int.eq_ofNat_of_zero_le hle.1
  have key : ∀ j : Nat, j < l.length / 2 → l.getD (2 * j) 0 ≤ c → c ≤ l.getD (2 * j + 1) 0 → j = i := by
    intro j hj hc1 hc2
    rcases Nat.lt_trichotomy j i with h | h | h
    · have := h1 j (by omega) (by omega)
      unfold pt at this
      rw [(rd_nat l j).2] at this
      simp only [decide_eq_false_iff_not] at this
      omega
    · exact h
    · have h3 := h2 (by omega)
      unfold pt at h3
      rw [(rd_nat l i).2] at h3
      simp only [decide_eq_true_eq] at h3
      have h4 := ok_rise l hk (j - i - 1) i (by omega)
      rw [show i + (j - i - 1) + 1 = j by omega] at h4
      omega
  by_cases hi : (i : Int) < (l.length : Int) / 2
  · rw [if_pos hi, (rd_nat l i).1]
    rw [Bool.eq_iff_iff, inside_iff, decide_eq_true_eq]
    constructor
    · intro h
      have h3 := h2 hi
      unfold pt at h3
      rw [(rd_nat l i).2] at h3
      exact ⟨i, by omega, h, by simpa using h3⟩
    · rintro ⟨j, hj, hc1, hc2⟩
      rw [← key j hj hc1 hc2]
      exact hc1
  · rw [if_neg hi]
    symm
    rw [Bool.eq_false_iff]
    intro h
    obtain ⟨j, hj, hc1, hc2⟩ := (inside_iff l c).1 h
    have := key j hj hc1 hc2
    omega

def tabM : List Int := [768, 879, 1155, 1161, 1425, 1469, 1471, 1471, 1473, 1474, 1552, 1562, 1611, 1631, 1648, 1648, 1750, 1756, 2304, 2306, 2364, 2364, 2381, 2381, 3633, 3633, 3636, 3642, 3655, 3662, 4957, 4959, 6832, 6911, 7616, 7679, 8204, 8205, 8400, 8447, 12330, 12335, 12441, 12442, 65024, 65039, 65056, 65071, 127995, 127999, 917760, 917999]
def tabW : List Int := [4352, 4447, 8986, 8987, 9001, 9002, 9193, 9196, 9725, 9726, 9748, 9749, 9800, 9811, 9898, 9899, 11904, 12329, 12336, 12350, 12353, 12440, 12443, 19903, 19968, 42191, 43360, 43391, 44032, 55203, 63744, 64255, 65072, 65135, 65281, 65376, 65504, 65510, 94176, 101119, 110592, 111359, 127744, 127994, 128000, 128591, 128640, 128767, 129280, 129535, 131072, 196605, 196608, 262141]
theorem okM : okTab tabM = true := by decide
theorem okW : okTab tabW = true := by decide

/-- The class of a number. -/
def cls (c : Int) : Int :=
  if c < 0 ∨ c > 1114111 ∨ (55296 ≤ c ∧ c ≤ 57343) then 5 else if c = 10 then 1 else if c < 32 ∨ (127 ≤ c ∧ c ≤ 159) then 2
  else if inside tabM c = true then 3 else if inside tabW c = true then 4 else 0
def cel (c : Int) : Int := if cls c = 1 then 0 else if cls c = 4 then 2 else if cls c = 2 then (if c ≤ 127 then 2 else 1) else 1

/-- Between what bounds a table's ranges lie. -/
theorem inside_all (l : List Int) (q : Int × Int → Bool) (hq : (pairs l).all q = true) (c : Int) (h : inside l c = true) : ∃ p : Int × Int, p.1 ≤ c ∧ c ≤ p.2 ∧ p ∈ pairs l ∧ q p = true := by
  unfold inside at h
  obtain ⟨p, hp, hc⟩ := List.any_eq_true.1 h
  simp only [Bool.and_eq_true, decide_eq_true_eq] at hc
  exact ⟨p, hc.1, hc.2, hp, List.all_eq_true.1 hq p hp⟩

theorem inM (c : Int) (h : inside tabM c = true) : 768 ≤ c ∧ c ≤ 1114111 ∧ (c < 55296 ∨ 57343 < c) := by
  obtain ⟨p, h1, h2, _, hq⟩ := inside_all tabM (fun p => decide (768 ≤ p.1) && decide (p.2 ≤ 1114111) && (decide (p.2 < 55296) || decide (57343 < p.1))) (by decide) c h
  simp only [Bool.and_eq_true, Bool.or_eq_true, decide_eq_true_eq] at hq
  omega
theorem inW (c : Int) (h : inside tabW c = true) : 768 ≤ c ∧ c ≤ 1114111 ∧ (c < 55296 ∨ 57343 < c) := by
  obtain ⟨p, h1, h2, _, hq⟩ := inside_all tabW (fun p => decide (768 ≤ p.1) && decide (p.2 ≤ 1114111) && (decide (p.2 < 55296) || decide (57343 < p.1))) (by decide) c h
  simp only [Bool.and_eq_true, Bool.or_eq_true, decide_eq_true_eq] at hq
  omega
theorem notBoth (c : Int) (h : inside tabM c = true) (h' : inside tabW c = true) : False := by
  obtain ⟨p, h1, h2, _, hq⟩ := inside_all tabM (fun p => (pairs tabW).all fun q => decide (p.2 < q.1) || decide (q.2 < p.1)) (by decide +kernel) c h
  obtain ⟨r, h3, h4, hr, _⟩ := inside_all tabW (fun _ => true) (by decide) c h'
  have := List.all_eq_true.1 hq r hr
  simp only [Bool.or_eq_true, decide_eq_true_eq] at this
  omega
end Go.Proofs.Ytdcbgaikakhadaa.Core
