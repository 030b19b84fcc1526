/-
  Plain arithmetic of the text of a day: which texts have its form, and the three numbers that one holds.
-/
import Derived.PlainAid
import Derived.Test.YtodlkjdmhfcpkaaDoorCal
namespace Go.Proofs.YtodlkjdmhfcpkaaDoor
open Go.PlainAid

/-- The byte at a place is what the text of a day has there. -/
def okAt (s : ByteArray) (k : Nat) : Bool := if k = 4 ∨ k = 7 then bt s k == 45 else decide (48 ≤ bt s k) && decide (bt s k ≤ 57)
def okUpto (s : ByteArray) (k : Nat) : Prop := ∀ j, j < k → okAt s j = true
/-- Which of the three numbers is read at a place. -/
def pt (k : Nat) : Nat := if k ≤ 4 then 0 else if k ≤ 7 then 1 else 2
theorem pt_lt (k : Nat) : pt k < 3 := by unfold pt; split; omega; split <;> omega
/-- The three numbers behind k bytes. -/
def vals (s : ByteArray) : Nat → Nat → Int
  | 0, _ => 0
  | k + 1, j => if k = 4 ∨ k = 7 then vals s k j else if j = pt k then 10 * vals s k j + (bt s k - 48) else vals s k j
theorem ok_digit {s : ByteArray} {k : Nat} (h4 : k ≠ 4) (h7 : k ≠ 7) (h : okAt s k = true) : 48 ≤ bt s k ∧ bt s k ≤ 57 := by
  unfold okAt at h; rw [if_neg (by omega)] at h; simp at h; exact h
theorem ok_digit_no {s : ByteArray} {k : Nat} (h4 : k ≠ 4) (h7 : k ≠ 7) (h : okAt s k = false) : bt s k < 48 ∨ 57 < bt s k := by
  unfold okAt at h; rw [if_neg (by omega)] at h; simp at h; omega
theorem ok_dash {s : ByteArray} {k : Nat} (h47 : k = 4 ∨ k = 7) (h : okAt s k = true) : bt s k = 45 := by
  unfold okAt at h; rw [if_pos h47] at h; simpa using h
theorem ok_dash_no {s : ByteArray} {k : Nat} (h47 : k = 4 ∨ k = 7) (h : okAt s k = false) : bt s k ≠ 45 := by
  unfold okAt at h; rw [if_pos h47] at h; simpa using h
theorem okUpto_succ {s : ByteArray} {k : Nat} (h : okUpto s k) (hk : okAt s k = true) : okUpto s (k + 1) := by
  intro j hj
  by_cases e : j = k
  · rw [e]; exact hk
  · exact h j (by omega)
theorem vals_bd {s : ByteArray} (k : Nat) (h : okUpto s k) (j : Nat) : 0 ≤ vals s k j ∧ vals s k j < 10 ^ k := by
  induction k with
  | zero => simp [vals]
  | succ k ih =>
    have ih := ih (fun i hi => h i (by omega))
    have hp : (10 : Int) ^ (k + 1) = 10 * 10 ^ k := by rw [Int.pow_succ]; omega
    have h1 : (0 : Int) < 10 ^ k := Int.pow_pos (by omega)
    rw [hp]
    generalize (10 : Int) ^ k = t at *
    rw [vals]
    by_cases h47 : k = 4 ∨ k = 7
    · rw [if_pos h47]; omega
    · rw [if_neg h47]
      have := ok_digit (by omega) (by omega) (h k (by omega))
      split <;> omega
theorem vals_le {s : ByteArray} {k : Nat} (h : okUpto s k) (hk : k ≤ 10) (j : Nat) : 0 ≤ vals s k j ∧ vals s k j ≤ 10000000000 := by
  have a := vals_bd k h j
  have b : (10 : Int) ^ k ≤ 10000000000 := by
    have h : k = 0 ∨ k = 1 ∨ k = 2 ∨ k = 3 ∨ k = 4 ∨ k = 5 ∨ k = 6 ∨ k = 7 ∨ k = 8 ∨ k = 9 ∨ k = 10 := by omega
    rcases h with rfl | rfl | rfl | rfl | rfl | rfl | rfl | rfl | rfl | rfl | rfl <;> decide
  omega
theorem vals_digit {s : ByteArray} {k : Nat} (h4 : k ≠ 4) (h7 : k ≠ 7) (j : Nat) : vals s (k + 1) j = if j = pt k then 10 * vals s k j + (bt s k - 48) else vals s k j := by
  rw [vals, if_neg (by omega)]
theorem vals_dash {s : ByteArray} {k : Nat} (h47 : k = 4 ∨ k = 7) (j : Nat) : vals s (k + 1) j = vals s k j := by
  rw [vals, if_pos h47]
theorem pt_digit {k : Nat} (h4 : k ≠ 4) (h7 : k ≠ 7) : pt (k + 1) = pt k := by
  have a : (k + 1 ≤ 4) = (k ≤ 4) := by simp; omega
  have b : (k + 1 ≤ 7) = (k ≤ 7) := by simp; omega
  simp only [pt, a, b]
theorem pt_dash {k : Nat} (h47 : k = 4 ∨ k = 7) : pt (k + 1) = pt k + 1 := by
  rcases h47 with rfl | rfl <;> rfl
/-- A text of the form of a day's. -/
def isText (s : ByteArray) : Prop := s.size = 10 ∧ okUpto s 10
theorem not_text_of {s : ByteArray} {k : Nat} (hk : k < 10) (h : okAt s k = false) : ¬ isText s := fun t => by
  have := t.2 k hk; rw [h] at this; cases this
end Go.Proofs.YtodlkjdmhfcpkaaDoor
