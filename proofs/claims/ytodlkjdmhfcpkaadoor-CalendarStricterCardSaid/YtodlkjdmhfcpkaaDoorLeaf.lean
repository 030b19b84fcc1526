/-
  The contracts of the calendar's small functions: leap, isDay, first, lengths, and the reference's IsDay, leap, days.
-/
import Derived.Test.YtodlkjdmhfcpkaaDoorProg
import Derived.Test.YtodlkjdmhfcpkaaDoorCal
import Derived.Handy
import Derived.Lib.Hide
import Derived.Deep.QuietTactic
import Derived.BigQuiet
import Derived.WalkSpells
import Derived.WalkLawsBesides
namespace Go.Proofs.YtodlkjdmhfcpkaaDoor
open Go.RowKit

theorem isDay_yes (n : Int) (w : World) (h0 : 0 ≤ n) (h1 : n ≤ 65536) :
    Calls Tryd.prog 30 #[.int .i64 n] w fun e w' => e = .returned (.bool true) ∧ w = w' := by
  go_enter Tryd.func30, Tryd.ntmps30
  go_wp2
  go_ret
  exact ⟨rfl, rfl⟩
theorem isDay_no (n : Int) (w : World) (h : n < 0 ∨ 65536 < n) :
    Calls Tryd.prog 30 #[.int .i64 n] w fun e w' => e = .returned (.bool false) ∧ w = w' := by
  rcases h with h | h
  · go_enter Tryd.func30, Tryd.ntmps30
    go_wp2
    go_ret
    exact ⟨rfl, rfl⟩
  · have h' : 0 ≤ n := by omega
    have hd : decide (n ≤ 65536) = false := by simp; omega
    go_enter Tryd.func30, Tryd.ntmps30
    go_wp2
    go_ret
    exact ⟨rfl, rfl⟩
theorem first_any (y : Int) (w : World) (h0 : 2000 ≤ y) (h1 : y ≤ 10000) :
    Calls Tryd.prog 31 #[.int .i64 y] w fun e w' => e = .returned (.int .i64 (Cal.fst y)) ∧ w = w' := by
  go_enter Tryd.func31, Tryd.ntmps31
  go_wp2
  go_ret
  exact ⟨rfl, rfl⟩
theorem leap_any (y : Int) (w : World) (h0 : 0 ≤ y) (h1 : y ≤ 10000) :
    Calls Tryd.prog 44 #[.int .i64 y] w fun e w' => e = .returned (.bool (Cal.lp y)) ∧ w = w' := by
  go_enter Tryd.func44, Tryd.ntmps44
  go_wp2
  all_goals (go_ret; exact ⟨by simp_all [Cal.lp], rfl⟩)
theorem refLeap_any (y : Int) (w : World) (h0 : 0 ≤ y) (h1 : y ≤ 10000) :
    Calls Tryd.prog 45 #[.int .i64 y] w fun e w' => e = .returned (.bool (Cal.lp y)) ∧ w = w' := by
  go_enter Tryd.func45, Tryd.ntmps45
  go_wp2
  all_goals (go_ret; exact ⟨by simp_all [Cal.lp], rfl⟩)
theorem refIsDay_yes (n : Int) (w : World) (h0 : 0 ≤ n) (h1 : n ≤ 65536) :
    Calls Tryd.prog 33 #[.int .i64 n] w fun e w' => e = .returned (.bool true) ∧ w = w' := by
  go_enter Tryd.func33, Tryd.ntmps33
  go_wp2
  go_ret
  exact ⟨rfl, rfl⟩
theorem refIsDay_no (n : Int) (w : World) (h : n < 0 ∨ 65536 < n) :
    Calls Tryd.prog 33 #[.int .i64 n] w fun e w' => e = .returned (.bool false) ∧ w = w' := by
  rcases h with h | h
  · go_enter Tryd.func33, Tryd.ntmps33
    go_wp2
    go_ret
    exact ⟨rfl, rfl⟩
  · have h' : 0 ≤ n := by omega
    have hd : decide (n ≤ 65536) = false := by simp; omega
    go_enter Tryd.func33, Tryd.ntmps33
    go_wp2
    go_ret
    exact ⟨rfl, rfl⟩
theorem days_any (y m : Int) (w : World) (h0 : 0 ≤ y) (h1 : y ≤ 10000) (h2 : 0 ≤ m) (h3 : m ≤ 100) :
    Calls Tryd.prog 34 #[.int .i64 y, .int .i64 m] w fun e w' => e = .returned (.int .i64 (Cal.dim y m)) ∧ w = w' := by
  by_cases hm : m = 2
  · subst hm
    cases hl : Cal.lp y with
    | true =>
      have e : Cal.dim y 2 = 29 := by simp [Cal.dim, Cal.lpI, hl]
      rw [e]; clear e
      go_enter Tryd.func34, Tryd.ntmps34
      go_wp2_with (go_at_call 45; refine (refLeap_any _ _ h0 h1).mono ?_; rw [hl]; rintro e w' ⟨rfl, rfl⟩)
      go_ret
      exact ⟨rfl, rfl⟩
    | false =>
      have e : Cal.dim y 2 = 28 := by simp [Cal.dim, Cal.lpI, hl]
      rw [e]; clear e
      go_enter Tryd.func34, Tryd.ntmps34
      go_wp2_with (go_at_call 45; refine (refLeap_any _ _ h0 h1).mono ?_; rw [hl]; rintro e w' ⟨rfl, rfl⟩)
      go_ret
      exact ⟨rfl, rfl⟩
  · have e : Cal.dim y m = if m = 4 ∨ m = 6 ∨ m = 9 ∨ m = 11 then 30 else 31 := by simp [Cal.dim, hm]
    rw [e]; clear e
    have b2 : (m == 2) = false := by simp [hm]
    clear hm
    by_cases h4 : m = 4
    · subst h4
      go_enter Tryd.func34, Tryd.ntmps34
      go_wp2
      go_ret
      exact ⟨rfl, rfl⟩
    by_cases h6 : m = 6
    · subst h6
      go_enter Tryd.func34, Tryd.ntmps34
      go_wp2
      go_ret
      exact ⟨rfl, rfl⟩
    by_cases h9 : m = 9
    · subst h9
      go_enter Tryd.func34, Tryd.ntmps34
      go_wp2
      go_ret
      exact ⟨rfl, rfl⟩
    by_cases h11 : m = 11
    · subst h11
      go_enter Tryd.func34, Tryd.ntmps34
      go_wp2
      go_ret
      exact ⟨rfl, rfl⟩
    rw [if_neg (by omega)]
    have b4 : (m == 4) = false := by simp [h4]
    have b6 : (m == 6) = false := by simp [h6]
    have b9 : (m == 9) = false := by simp [h9]
    have b11 : (m == 11) = false := by simp [h11]
    clear h4 h6 h9 h11
    go_enter Tryd.func34, Tryd.ntmps34
    go_wp2
    go_ret
    exact ⟨rfl, rfl⟩
/-- The lengths of the months of a year, as the array's cells. -/
def lens (y : Int) : Array Value := #[.int .i64 31, .int .i64 (28 + Cal.lpI y), .int .i64 31, .int .i64 30, .int .i64 31, .int .i64 30, .int .i64 31, .int .i64 31, .int .i64 30, .int .i64 31, .int .i64 30, .int .i64 31]
theorem lengths_any (y : Int) (w : World) (h0 : 0 ≤ y) (h1 : y ≤ 10000) :
    Calls Tryd.prog 32 #[.int .i64 y] w fun e w' => e = .returned (.agg (lens y)) ∧ Below w.heap.size w w' := by
  cases hl : Cal.lp y with
  | true =>
    have e : lens y = #[.int .i64 31, .int .i64 29, .int .i64 31, .int .i64 30, .int .i64 31, .int .i64 30, .int .i64 31, .int .i64 31, .int .i64 30, .int .i64 31, .int .i64 30, .int .i64 31] := by simp [lens, Cal.lpI, hl]
    rw [e]; clear e
    go_enter Tryd.func32, Tryd.ntmps32
    go_wp2_with (go_at_call 44; refine (leap_any _ _ h0 h1).mono ?_; rw [hl]; rintro e w' ⟨rfl, rfl⟩)
    go_returns
    exact ⟨rfl, by go_grown⟩
  | false =>
    have e : lens y = #[.int .i64 31, .int .i64 28, .int .i64 31, .int .i64 30, .int .i64 31, .int .i64 30, .int .i64 31, .int .i64 31, .int .i64 30, .int .i64 31, .int .i64 30, .int .i64 31] := by simp [lens, Cal.lpI, hl]
    rw [e]; clear e
    go_enter Tryd.func32, Tryd.ntmps32
    go_wp2_with (go_at_call 44; refine (leap_any _ _ h0 h1).mono ?_; rw [hl]; rintro e w' ⟨rfl, rfl⟩)
    go_returns
    exact ⟨rfl, by go_grown⟩
end Go.Proofs.YtodlkjdmhfcpkaaDoor
