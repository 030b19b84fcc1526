/-
  The walk of the law CalendarStricter: it returns true for every two policies, entry and two numbers.
-/
import Derived.Test.YtodlkjdmhfcpkaaDoorStrictE
import Derived.Test.YtodlkjdmhfcpkaaDoorStrict0
import Derived.Test.YtodlkjdmhfcpkaaDoorStrict1
import Derived.Test.YtodlkjdmhfcpkaaDoorStrict2
import Derived.Test.YtodlkjdmhfcpkaaDoorStrict3
namespace Go.Proofs.YtodlkjdmhfcpkaaDoor
open Go.RowKit

theorem stricter_walk (kp un ac kq uq aq : Int) (v : Nat → Value) (cr us ex : Int) (ar : Bool) (t u : Int) (w : World) (ht : Tab w) :
    Calls Tryd.prog 9 #[.agg #[.int .i64 kp, .int .i64 un, .int .i64 ac], .agg #[.int .i64 kq, .int .i64 uq, .int .i64 aq], .agg (entry v cr us ex ar), .int .i64 t, .int .i64 u] w fun e w' => e = .returned (.bool true) ∧ Below w.heap.size w w' := by
  cases h1 : isD t with
  | false => exact strict_e1 kp un ac kq uq aq v cr us ex ar t u w ht h1
  | true =>
    cases h2 : isD u with
    | false => exact strict_e2 kp un ac kq uq aq v cr us ex ar t u w ht h1 h2
    | true =>
      by_cases h3 : t ≤ u
      · cases h4 : isD kp with
        | false => exact strict_e4 kp un ac kq uq aq v cr us ex ar t u w ht h1 h2 h3 h4
        | true =>
          cases h5 : isD un with
          | false => exact strict_e5 kp un ac kq uq aq v cr us ex ar t u w ht h1 h2 h3 h4 h5
          | true =>
            cases h6 : isD ac with
            | false => exact strict_e6 kp un ac kq uq aq v cr us ex ar t u w ht h1 h2 h3 h4 h5 h6
            | true =>
              cases s1 : strictB kp kq with
              | false => exact strict_0 kp un ac kq uq aq v cr us ex ar t u w ht h1 h2 h3 h4 h5 h6 s1
              | true =>
                cases s2 : strictB un uq with
                | false => exact strict_1 kp un ac kq uq aq v cr us ex ar t u w ht h1 h2 h3 h4 h5 h6 s1 s2
                | true =>
                  cases s3 : strictB ac aq with
                  | false => exact strict_2 kp un ac kq uq aq v cr us ex ar t u w ht h1 h2 h3 h4 h5 h6 s1 s2 s3
                  | true => exact strict_3 kp un ac kq uq aq v cr us ex ar t u w ht h1 h2 h3 h4 h5 h6 s1 s2 s3
      · exact strict_e3 kp un ac kq uq aq v cr us ex ar t u w ht h1 h2 (by omega)
end Go.Proofs.YtodlkjdmhfcpkaaDoor
