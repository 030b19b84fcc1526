/-
  The walk of the law CalendarDates: it returns true for all numbers and texts.
-/
import Derived.Test.YtodlkjdmhfcpkaaDoorAny
namespace Go.Proofs.YtodlkjdmhfcpkaaDoor
open Go.RowKit

set_option maxHeartbeats 1000000 in
theorem dates_walk (n y m d : Int) (s : ByteArray) (w : World) (ht : Tab w) (hs : s.size ≤ maxLen) :
    Calls Tryd.prog 3 #[.int .i64 n, .int .i64 y, .int .i64 m, .int .i64 d, .string s] w fun e w' => e = .returned (.bool true) ∧ Below w.heap.size w w' := by
  unfold maxLen at hs
  have HT := Lib.hid ht
  clear ht
  by_cases h20 : 20 < s.size
  · have h20' : (20 : Int) < s.size := by omega
    go_enter Tryd.func3, Tryd.ntmps3
    go_wp2_with fail
    refine (awake_true _ HT.out).mono ?_
    rintro e w1 ⟨rfl, hb1⟩
    go_wp2_with fail
    go_ret
    exact ⟨rfl, hb1⟩
  · have h20' : (s.size : Int) ≤ 20 := by omega
    clear h20
    go_enter Tryd.func3, Tryd.ntmps3
    go_wp2_with fail
    refine (awake_true _ HT.out).mono ?_
    rintro e w1 ⟨rfl, hb1⟩
    have N1 := Lib.hid hb1
    clear hb1
    go_wp2_with fail
    refine (date_any _ _).mono ?_
    rintro e w2 ⟨rfl, hb2⟩
    have N2 := Lib.hid (N1.out.trans (hb2.mono N1.out.size))
    clear hb2
    go_wp2_with (go_at_call 12; refine (refDate_any _ _).mono ?_; rintro e w' ⟨rfl, rfl⟩)
    refine (day_any _ _ _ _).mono ?_
    rintro e w3 ⟨rfl, hb3⟩
    have N3 := Lib.hid (N2.out.trans (hb3.mono N2.out.size))
    clear hb3
    go_wp2_with (go_at_call 14; refine (refDay_any _ _ _ _).mono ?_; rintro e w' ⟨rfl, rfl⟩)
    refine (parseF _ _).mono ?_
    rintro e w4 ⟨rfl, hb4⟩
    have N4 := Lib.hid (N3.out.trans (hb4.mono N3.out.size))
    clear hb4
    go_wp2_with fail
    refine (refParseF _ _).mono ?_
    rintro e w5 ⟨rfl, hb5⟩
    have N5 := Lib.hid (N4.out.trans (hb5.mono N4.out.size))
    clear hb5
    have T5 := Lib.hid (HT.out.below N5.out)
    go_wp2_with fail
    refine (format_any _ _ T5.out).mono ?_
    rintro e w6 ⟨rfl, hb6⟩
    have N6 := Lib.hid (N5.out.trans (hb6.mono N5.out.size))
    clear hb6
    go_wp2_with fail
    refine (refFormat_any _ _).mono ?_
    rintro e w7 ⟨rfl, hb7⟩
    have N7 := Lib.hid (N6.out.trans (hb7.mono N6.out.size))
    clear hb7
    go_wp2_with (first | (go_at_call 19; refine (weekday_any _ _).mono ?_; rintro e w' ⟨rfl, rfl⟩) | (go_at_call 20; refine (refWeekday_any _ _).mono ?_; rintro e w' ⟨rfl, rfl⟩))
    go_ret
    exact ⟨rfl, N7.out⟩
end Go.Proofs.YtodlkjdmhfcpkaaDoor
