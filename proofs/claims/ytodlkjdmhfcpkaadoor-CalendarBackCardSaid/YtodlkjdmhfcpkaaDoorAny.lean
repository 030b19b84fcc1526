/-
  The contracts of Date, Format and Weekday with their answers as functions of any number.
-/
import Derived.Test.YtodlkjdmhfcpkaaDoorAwake
namespace Go.Proofs.YtodlkjdmhfcpkaaDoor
open Go.RowKit

def dateV (n : Int) : Int × Int × Int := bif isD n then (Cal.cy n, Cal.cm n, Cal.cd n) else (0, 0, 0)
theorem date_any (n : Int) (w : World) : Calls Tryd.prog 11 #[.int .i64 n] w fun e w' => e = .returned (.tuple #[.int .i64 (dateV n).1, .int .i64 (dateV n).2.1, .int .i64 (dateV n).2.2]) ∧ Below w.heap.size w w' := by
  unfold dateV
  cases h : isD n with
  | true => exact date_yes n w (isD_true.1 h).1 (isD_true.1 h).2
  | false => exact (date_no n w (isD_false.1 h)).mono fun e w' ⟨he, hw⟩ => ⟨he, by rw [← hw]; exact Below.refl _ _⟩
theorem refDate_any (n : Int) (w : World) : Calls Tryd.prog 12 #[.int .i64 n] w fun e w' => e = .returned (.tuple #[.int .i64 (dateV n).1, .int .i64 (dateV n).2.1, .int .i64 (dateV n).2.2]) ∧ w = w' := by
  unfold dateV
  cases h : isD n with
  | true => exact refDate_yes n w (isD_true.1 h).1 (isD_true.1 h).2
  | false => exact refDate_no n w (isD_false.1 h)
def formatV (n : Int) : ByteArray := bif isD n then dayText n else ⟨#[]⟩
theorem format_any (n : Int) (w : World) (ht : Tab w) : Calls Tryd.prog 17 #[.int .i64 n] w fun e w' => e = .returned (.string (formatV n)) ∧ Below w.heap.size w w' := by
  unfold formatV
  cases h : isD n with
  | true => exact format_yes n w ht (isD_true.1 h).1 (isD_true.1 h).2
  | false => exact format_no n w (isD_false.1 h)
theorem refFormat_any (n : Int) (w : World) : Calls Tryd.prog 18 #[.int .i64 n] w fun e w' => e = .returned (.string (formatV n)) ∧ Below w.heap.size w w' := by
  unfold formatV
  cases h : isD n with
  | true => exact refFormat_yes n w (isD_true.1 h).1 (isD_true.1 h).2
  | false => exact refFormat_no n w (isD_false.1 h)
def weekV (n : Int) : Int := bif isD n then (n + 5) % 7 else -1
theorem weekday_any (n : Int) (w : World) : Calls Tryd.prog 19 #[.int .i64 n] w fun e w' => e = .returned (.int .i64 (weekV n)) ∧ w = w' := by
  unfold weekV
  cases h : isD n with
  | true => exact weekday_yes n w (isD_true.1 h).1 (isD_true.1 h).2
  | false => exact weekday_no n w (isD_false.1 h)
theorem refWeekday_any (n : Int) (w : World) : Calls Tryd.prog 20 #[.int .i64 n] w fun e w' => e = .returned (.int .i64 (weekV n)) ∧ w = w' := by
  unfold weekV
  cases h : isD n with
  | true => exact refWeekday_yes n w (isD_true.1 h).1 (isD_true.1 h).2
  | false => exact refWeekday_no n w (isD_false.1 h)
end Go.Proofs.YtodlkjdmhfcpkaaDoor
