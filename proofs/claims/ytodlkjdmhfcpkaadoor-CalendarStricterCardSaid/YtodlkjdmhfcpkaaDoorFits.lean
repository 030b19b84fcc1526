/-
  The contracts of fits, Expired, reached: the program's and the reference's.
-/
import Derived.Test.YtodlkjdmhfcpkaaDoorLeaf
namespace Go.Proofs.YtodlkjdmhfcpkaaDoor
open Go.RowKit

/-- A number is a day. -/
def isD (n : Int) : Bool := decide (0 ≤ n ∧ n ≤ 65536)
theorem isD_true {n : Int} : isD n = true ↔ 0 ≤ n ∧ n ≤ 65536 := by unfold isD; simp
theorem isD_false {n : Int} : isD n = false ↔ n < 0 ∨ 65536 < n := by unfold isD; simp; omega
theorem isDay_any (n : Int) (w : World) : Calls Tryd.prog 30 #[.int .i64 n] w fun e w' => e = .returned (.bool (isD n)) ∧ w = w' := by
  cases h : isD n with
  | true => exact isDay_yes n w (isD_true.1 h).1 (isD_true.1 h).2
  | false => exact isDay_no n w (isD_false.1 h)
theorem refIsDay_any (n : Int) (w : World) : Calls Tryd.prog 33 #[.int .i64 n] w fun e w' => e = .returned (.bool (isD n)) ∧ w = w' := by
  cases h : isD n with
  | true => exact refIsDay_yes n w (isD_true.1 h).1 (isD_true.1 h).2
  | false => exact refIsDay_no n w (isD_false.1 h)
/-- A catalog entry as its cells: the three days, whether it is archived, and the rest. -/
abbrev entry (v : Nat → Value) (cr us ex : Int) (ar : Bool) : Array Value :=
  #[v 0, v 1, v 2, v 3, v 4, v 5, v 6, v 7, v 8, v 9, v 10, v 11, v 12, v 13, v 14, v 15, v 16, v 17, v 18, v 19, .int .i64 cr, .int .i64 ex, .bool ar, v 23, .int .i64 us, v 25, v 26, v 27, v 28, v 29, v 30, v 31, v 32]
theorem bcell {W w1 : World} (hb : Below W.heap.size W w1) : (∀ b o, b < W.heap.size → w1.cell? ⟨b, o, none⟩ = W.cell? ⟨b, o, none⟩) ∧ (∀ b o, b < W.heap.size → w1.frozen? ⟨b, o, none⟩ = W.frozen? ⟨b, o, none⟩) :=
  ⟨fun b o h => hb.cell (p := ⟨b, o, none⟩) h, fun b o h => hb.frozen (p := ⟨b, o, none⟩) h⟩
def fitB (cr us ex t : Int) : Bool := isD cr && isD us && isD ex && isD t
theorem fits_any (v : Nat → Value) (cr us ex t : Int) (ar : Bool) (w : World) :
    Calls Tryd.prog 38 #[.agg (entry v cr us ex ar), .int .i64 t] w fun e w' => e = .returned (.bool (fitB cr us ex t)) ∧ Below w.heap.size w w' := by
  go_enter Tryd.func38, Tryd.ntmps38
  go_wp2_with (go_at_call 30; refine (isDay_any _ _).mono ?_; rintro e w' ⟨rfl, rfl⟩)
  all_goals (go_ret; exact ⟨by simp_all [fitB], by go_grown⟩)
theorem refFits_any (v : Nat → Value) (cr us ex t : Int) (ar : Bool) (w : World) :
    Calls Tryd.prog 39 #[.agg (entry v cr us ex ar), .int .i64 t] w fun e w' => e = .returned (.bool (fitB cr us ex t)) ∧ Below w.heap.size w w' := by
  go_enter Tryd.func39, Tryd.ntmps39
  go_wp2_with (go_at_call 33; refine (refIsDay_any _ _).mono ?_; rintro e w' ⟨rfl, rfl⟩)
  all_goals (go_ret; exact ⟨by simp_all [fitB], by go_grown⟩)
def expB (cr us ex t : Int) : Bool := fitB cr us ex t && (ex == 0 || decide (ex ≤ t))
def reachB (l n : Int) : Bool := decide (0 < l) && decide (l ≤ n)
theorem reached_any (l n : Int) (w : World) : Calls Tryd.prog 40 #[.int .i64 l, .int .i64 n] w fun e w' => e = .returned (.bool (reachB l n)) ∧ w = w' := by
  by_cases h : 0 < l
  · have hd : reachB l n = decide (l ≤ n) := by simp [reachB, h]
    rw [hd]; clear hd
    go_enter Tryd.func40, Tryd.ntmps40
    go_wp2
    go_ret
    exact ⟨rfl, rfl⟩
  · have hd : reachB l n = false := by simp [reachB, h]
    rw [hd]; clear hd
    go_enter Tryd.func40, Tryd.ntmps40
    go_wp2
    go_ret
    exact ⟨rfl, rfl⟩
theorem refReached_any (l n : Int) (w : World) : Calls Tryd.prog 41 #[.int .i64 l, .int .i64 n] w fun e w' => e = .returned (.bool (reachB l n)) ∧ w = w' := by
  by_cases h : 0 < l
  · have hd : reachB l n = decide (l ≤ n) := by simp [reachB, h]
    rw [hd]; clear hd
    go_enter Tryd.func41, Tryd.ntmps41
    go_wp2
    go_ret
    exact ⟨rfl, rfl⟩
  · have hd : reachB l n = false := by simp [reachB, h]
    rw [hd]; clear hd
    go_enter Tryd.func41, Tryd.ntmps41
    go_wp2
    go_ret
    exact ⟨rfl, rfl⟩
end Go.Proofs.YtodlkjdmhfcpkaaDoor
