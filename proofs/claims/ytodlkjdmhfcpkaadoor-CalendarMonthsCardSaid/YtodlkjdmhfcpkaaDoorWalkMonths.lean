/-
  The walk of the law CalendarMonths: it returns true for every two numbers.
-/
import Derived.Test.YtodlkjdmhfcpkaaDoorAwake
namespace Go.Proofs.YtodlkjdmhfcpkaaDoor
open Go.RowKit

theorem months_walk (n k : Int) (w : World) (ht : Tab w) :
    Calls Tryd.prog 5 #[.int .i64 n, .int .i64 k] w fun e w' => e = .returned (.bool true) ∧ Below w.heap.size w w' := by
  have HT := Lib.hid ht
  clear ht
  go_enter Tryd.func5, Tryd.ntmps5
  go_wp2_with fail
  refine (awake_true _ HT.out).mono ?_
  rintro e w1 ⟨rfl, hb1⟩
  have N1 := Lib.hid hb1
  clear hb1
  go_wp2_with fail
  refine (addMonths_any _ _ _).mono ?_
  rintro e w2 ⟨rfl, hb2⟩
  have N2 := Lib.hid (N1.out.trans (hb2.mono N1.out.size))
  clear hb2
  go_wp2_with (go_at_call 22; refine (refAddMonths_any _ _ _).mono ?_; rintro e w' ⟨rfl, rfl⟩)
  go_ret
  exact ⟨rfl, N2.out⟩
end Go.Proofs.YtodlkjdmhfcpkaaDoor
