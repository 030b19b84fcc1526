/-
  The contracts of the small predicates over bytes, of package dsname and of the reference.
-/
import Derived.Test.YtkoaeldlflncpaaDoorProg
import Derived.Handy
import Derived.Lib.Hide
import Derived.Deep.QuietTactic
import Derived.BigQuiet
import Derived.WalkSpells
import Derived.WalkLawsBesides
import Derived.PlainAid
namespace Go.Proofs.YtkoaeldlflncpaaDoor
open Go.RowKit Go.PlainAid

/-- The classes of bytes. -/
def upB (c : Int) : Bool := decide (65 ≤ c) && decide (c ≤ 90)
def dgB (c : Int) : Bool := decide (48 ≤ c) && decide (c ≤ 57)
def plB (c : Int) : Bool := upB c || dgB c
def stB (c : Int) : Bool := upB c || decide (c = 42)
def psB (c : Int) : Bool := plB c || decide (c = 42)

theorem upB_cases (c : Int) : (upB c = true ∧ 65 ≤ c ∧ c ≤ 90) ∨ (upB c = false ∧ c < 65) ∨ (upB c = false ∧ 65 ≤ c ∧ decide (c ≤ 90) = false) := by
  unfold upB; by_cases h : 65 ≤ c <;> by_cases h' : c ≤ 90 <;> simp [*] <;> omega
theorem dgB_cases (c : Int) : (dgB c = true ∧ 48 ≤ c ∧ c ≤ 57) ∨ (dgB c = false ∧ c < 48) ∨ (dgB c = false ∧ 48 ≤ c ∧ decide (c ≤ 57) = false) := by
  unfold dgB; by_cases h : 48 ≤ c <;> by_cases h' : c ≤ 57 <;> simp [*] <;> omega

theorem upper_any (c : Int) (w : World) : Calls Tryd.prog 34 #[.int .u8 c] w fun e w' => e = .returned (.bool (upB c)) ∧ w = w' := by
  rcases upB_cases c with ⟨h, h0, h1⟩ | ⟨h, h0⟩ | ⟨h, h0, h1⟩ <;> rw [h] <;> clear h
  all_goals
    go_enter Tryd.func34, Tryd.ntmps34
    go_wp2
    go_ret
    exact ⟨rfl, rfl⟩
theorem letter_any (c : Int) (w : World) : Calls Tryd.prog 104 #[.int .u8 c] w fun e w' => e = .returned (.bool (upB c)) ∧ w = w' := by
  rcases upB_cases c with ⟨h, h0, h1⟩ | ⟨h, h0⟩ | ⟨h, h0, h1⟩ <;> rw [h] <;> clear h
  all_goals
    go_enter Tryd.func104, Tryd.ntmps104
    go_wp2
    go_ret
    exact ⟨rfl, rfl⟩
theorem digit_any (c : Int) (w : World) : Calls Tryd.prog 70 #[.int .u8 c] w fun e w' => e = .returned (.bool (dgB c)) ∧ w = w' := by
  rcases dgB_cases c with ⟨h, h0, h1⟩ | ⟨h, h0⟩ | ⟨h, h0, h1⟩ <;> rw [h] <;> clear h
  all_goals
    go_enter Tryd.func70, Tryd.ntmps70
    go_wp2
    go_ret
    exact ⟨rfl, rfl⟩
theorem refDigit_any (c : Int) (w : World) : Calls Tryd.prog 89 #[.int .u8 c] w fun e w' => e = .returned (.bool (dgB c)) ∧ w = w' := by
  rcases dgB_cases c with ⟨h, h0, h1⟩ | ⟨h, h0⟩ | ⟨h, h0, h1⟩ <;> rw [h] <;> clear h
  all_goals
    go_enter Tryd.func89, Tryd.ntmps89
    go_wp2
    go_ret
    exact ⟨rfl, rfl⟩
theorem plain_any (c : Int) (w : World) : Calls Tryd.prog 39 #[.int .u8 c] w fun e w' => e = .returned (.bool (plB c)) ∧ w = w' := by
  cases h : upB c with
  | true =>
    go_enter Tryd.func39, Tryd.ntmps39
    go_wp2_with (go_at_call 34; refine (upper_any _ _).mono ?_; rintro e w' ⟨rfl, rfl⟩)
    go_ret
    exact ⟨by simp [plB, h], rfl⟩
  | false =>
    go_enter Tryd.func39, Tryd.ntmps39
    go_wp2_with (first | (go_at_call 34; refine (upper_any _ _).mono ?_; rintro e w' ⟨rfl, rfl⟩) | (go_at_call 70; refine (digit_any _ _).mono ?_; rintro e w' ⟨rfl, rfl⟩))
    go_ret
    exact ⟨by simp [plB, h], rfl⟩
theorem star_any (c : Int) (w : World) : Calls Tryd.prog 33 #[.int .u8 c] w fun e w' => e = .returned (.bool (stB c)) ∧ w = w' := by
  cases h : upB c with
  | true =>
    go_enter Tryd.func33, Tryd.ntmps33
    go_wp2_with (go_at_call 34; refine (upper_any _ _).mono ?_; rintro e w' ⟨rfl, rfl⟩)
    go_ret
    exact ⟨by simp [stB, h], rfl⟩
  | false =>
    go_enter Tryd.func33, Tryd.ntmps33
    go_wp2_with (go_at_call 34; refine (upper_any _ _).mono ?_; rintro e w' ⟨rfl, rfl⟩)
    go_ret
    exact ⟨by simp [stB, h] <;> rfl, rfl⟩
theorem plainStar_any (c : Int) (w : World) : Calls Tryd.prog 38 #[.int .u8 c] w fun e w' => e = .returned (.bool (psB c)) ∧ w = w' := by
  cases h : plB c with
  | true =>
    go_enter Tryd.func38, Tryd.ntmps38
    go_wp2_with (go_at_call 39; refine (plain_any _ _).mono ?_; rintro e w' ⟨rfl, rfl⟩)
    go_ret
    exact ⟨by simp [psB, h], rfl⟩
  | false =>
    go_enter Tryd.func38, Tryd.ntmps38
    go_wp2_with (go_at_call 39; refine (plain_any _ _).mono ?_; rintro e w' ⟨rfl, rfl⟩)
    go_ret
    exact ⟨by simp [psB, h] <;> rfl, rfl⟩
end Go.Proofs.YtkoaeldlflncpaaDoor
