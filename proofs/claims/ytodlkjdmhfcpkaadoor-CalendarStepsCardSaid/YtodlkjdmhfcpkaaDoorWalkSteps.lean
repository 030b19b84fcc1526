/-
  The walk of the law CalendarSteps: it returns true for every two numbers.
-/
import Derived.Test.YtodlkjdmhfcpkaaDoorTexts
namespace Go.Proofs.YtodlkjdmhfcpkaaDoor
open Go.RowKit

/-- A date behind a date. -/
inductive Nexts (y m d : Int) : Int → Int → Int → Prop
  | day : Nexts y m d y m (d + 1)
  | month (h1 : m < 12) (h2 : 28 ≤ d) : Nexts y m d y (m + 1) 1
  | year (h1 : m = 12) (h2 : d = 31) : Nexts y m d (y + 1) 1 1
theorem nexts_c (n : Int) (h0 : 0 ≤ n) : Nexts (Cal.cy n) (Cal.cm n) (Cal.cd n) (Cal.cy (n + 1)) (Cal.cm (n + 1)) (Cal.cd (n + 1)) := by
  have e := Cal.c_next n h0
  have v := Cal.c_valid n
  have b := Cal.dim_bd (Cal.cy n) (Cal.cm n)
  unfold Cal.next at e
  by_cases h : Cal.cd n < Cal.dim (Cal.cy n) (Cal.cm n)
  · rw [if_pos h] at e
    simp only [Prod.mk.injEq] at e
    rw [e.1, e.2.1, e.2.2]; exact .day
  · rw [if_neg h] at e
    have hd := v.dd
    by_cases h' : Cal.cm n < 12
    · rw [if_pos h'] at e
      simp only [Prod.mk.injEq] at e
      rw [e.1, e.2.1, e.2.2]; exact .month h' (by omega)
    · rw [if_neg h'] at e
      simp only [Prod.mk.injEq] at e
      have hm := v.m12
      have h12 : Cal.cm n = 12 := by omega
      have d31 : Cal.dim (Cal.cy n) 12 = 31 := rfl
      rw [h12] at h hd
      rw [e.1, e.2.1, e.2.2]; exact .year h12 (by omega)
set_option maxRecDepth 100000 in
set_option maxHeartbeats 2000000 in
theorem steps_rest (n o a b c : Int) (w : World) (ht : Tab w) (n0 : 0 ≤ n) (n1 : n < 65536) (o0 : 0 ≤ o) (o1 : o ≤ 65536) (hx : Nexts (Cal.cy n) (Cal.cm n) (Cal.cd n) a b c)
    (hd : ∀ w, Calls Tryd.prog 11 #[.int .i64 (n + 1)] w fun e w' => e = .returned (.tuple #[.int .i64 a, .int .i64 b, .int .i64 c]) ∧ Below w.heap.size w w') :
    Calls Tryd.prog 4 #[.int .i64 n, .int .i64 o] w fun e w' => e = .returned (.bool true) ∧ Below w.heap.size w w' := by
  have HT := Lib.hid ht
  have HD := Lib.hid hd
  clear ht hd
  have yb := cy_bd n n0 (by omega)
  have mb := cm_bd n
  have db := cd_bd n
  have hless := text_less n o n0 (by omega) o0 o1
  have hwk : ((n + 1 + 5) % 7 == ((n + 5) % 7 + 1) % 7) = true := by simp; omega
  have HP := Lib.hid (parseV_back n n0 (by omega))
  have HV := Lib.hid (dayV_back n n0 (by omega))
  cases hx with
  | day =>
    go_enter Tryd.func4, Tryd.ntmps4
    go_wp2_with fail
    refine (awake_true _ HT.out).mono ?_
    rintro e w1 ⟨rfl, hb1⟩
    have N1 := Lib.hid hb1
    clear hb1
    go_wp2_with fail
    refine (date_yes _ _ n0 (by omega)).mono ?_
    rintro e w2 ⟨rfl, hb2⟩
    have N2 := Lib.hid (N1.out.trans (hb2.mono N1.out.size))
    clear hb2
    go_wp2_with fail
    refine (HD.out _).mono ?_
    rintro e w3 ⟨rfl, hb3⟩
    have N3 := Lib.hid (N2.out.trans (hb3.mono N2.out.size))
    clear hb3
    go_wp2_with fail
    refine (day_any _ _ _ _).mono ?_
    rw [HV.out]
    rintro e w4 ⟨rfl, hb4⟩
    have N4 := Lib.hid (N3.out.trans (hb4.mono N3.out.size))
    clear hb4
    have T4 := Lib.hid (HT.out.below N4.out)
    go_wp2_with fail
    refine (format_yes _ _ T4.out n0 (by omega)).mono ?_
    rintro e w5 ⟨rfl, hb5⟩
    have N5 := Lib.hid (N4.out.trans (hb5.mono N4.out.size))
    clear hb5
    go_wp2_with fail
    refine (parseF _ _).mono ?_
    rw [HP.out]
    rintro e w6 ⟨rfl, hb6⟩
    have N6 := Lib.hid (N5.out.trans (hb6.mono N5.out.size))
    clear hb6
    have T6 := Lib.hid (HT.out.below N6.out)
    go_wp2_with (go_at_call 19; refine (weekday_yes _ _ (by omega) (by omega)).mono ?_; rintro e w' ⟨rfl, rfl⟩)
    refine (format_yes _ _ T6.out n0 (by omega)).mono ?_
    rintro e w7 ⟨rfl, hb7⟩
    have N7 := Lib.hid (N6.out.trans (hb7.mono N6.out.size))
    clear hb7
    have T7 := Lib.hid (HT.out.below N7.out)
    go_wp2_with fail
    refine (format_yes _ _ T7.out o0 o1).mono ?_
    rintro e w8 ⟨rfl, hb8⟩
    have N8 := Lib.hid (N7.out.trans (hb8.mono N7.out.size))
    clear hb8
    go_wp2_with fail
    go_ret
    exact ⟨rfl, N8.out⟩
  | month h1 h2 =>
    have q1 : (Cal.cm n + 1 == Cal.cm n) = false := by simp; omega
    go_enter Tryd.func4, Tryd.ntmps4
    go_wp2_with fail
    refine (awake_true _ HT.out).mono ?_
    rintro e w1 ⟨rfl, hb1⟩
    have N1 := Lib.hid hb1
    clear hb1
    go_wp2_with fail
    refine (date_yes _ _ n0 (by omega)).mono ?_
    rintro e w2 ⟨rfl, hb2⟩
    have N2 := Lib.hid (N1.out.trans (hb2.mono N1.out.size))
    clear hb2
    go_wp2_with fail
    refine (HD.out _).mono ?_
    rintro e w3 ⟨rfl, hb3⟩
    have N3 := Lib.hid (N2.out.trans (hb3.mono N2.out.size))
    clear hb3
    go_wp2_with fail
    refine (day_any _ _ _ _).mono ?_
    rw [HV.out]
    rintro e w4 ⟨rfl, hb4⟩
    have N4 := Lib.hid (N3.out.trans (hb4.mono N3.out.size))
    clear hb4
    have T4 := Lib.hid (HT.out.below N4.out)
    go_wp2_with fail
    refine (format_yes _ _ T4.out n0 (by omega)).mono ?_
    rintro e w5 ⟨rfl, hb5⟩
    have N5 := Lib.hid (N4.out.trans (hb5.mono N4.out.size))
    clear hb5
    go_wp2_with fail
    refine (parseF _ _).mono ?_
    rw [HP.out]
    rintro e w6 ⟨rfl, hb6⟩
    have N6 := Lib.hid (N5.out.trans (hb6.mono N5.out.size))
    clear hb6
    have T6 := Lib.hid (HT.out.below N6.out)
    go_wp2_with (go_at_call 19; refine (weekday_yes _ _ (by omega) (by omega)).mono ?_; rintro e w' ⟨rfl, rfl⟩)
    refine (format_yes _ _ T6.out n0 (by omega)).mono ?_
    rintro e w7 ⟨rfl, hb7⟩
    have N7 := Lib.hid (N6.out.trans (hb7.mono N6.out.size))
    clear hb7
    have T7 := Lib.hid (HT.out.below N7.out)
    go_wp2_with fail
    refine (format_yes _ _ T7.out o0 o1).mono ?_
    rintro e w8 ⟨rfl, hb8⟩
    have N8 := Lib.hid (N7.out.trans (hb8.mono N7.out.size))
    clear hb8
    go_wp2_with fail
    go_ret
    exact ⟨rfl, N8.out⟩
  | year h1 h2 =>
    have q1 : (Cal.cy n + 1 == Cal.cy n) = false := by simp; omega
    have q2 : (Cal.cm n == 12) = true := by simp [h1]
    have q3 : (Cal.cd n == 31) = true := by simp [h2]
    clear h1 h2
    go_enter Tryd.func4, Tryd.ntmps4
    go_wp2_with fail
    refine (awake_true _ HT.out).mono ?_
    rintro e w1 ⟨rfl, hb1⟩
    have N1 := Lib.hid hb1
    clear hb1
    go_wp2_with fail
    refine (date_yes _ _ n0 (by omega)).mono ?_
    rintro e w2 ⟨rfl, hb2⟩
    have N2 := Lib.hid (N1.out.trans (hb2.mono N1.out.size))
    clear hb2
    go_wp2_with fail
    refine (HD.out _).mono ?_
    rintro e w3 ⟨rfl, hb3⟩
    have N3 := Lib.hid (N2.out.trans (hb3.mono N2.out.size))
    clear hb3
    go_wp2_with fail
    refine (day_any _ _ _ _).mono ?_
    rw [HV.out]
    rintro e w4 ⟨rfl, hb4⟩
    have N4 := Lib.hid (N3.out.trans (hb4.mono N3.out.size))
    clear hb4
    have T4 := Lib.hid (HT.out.below N4.out)
    go_wp2_with fail
    refine (format_yes _ _ T4.out n0 (by omega)).mono ?_
    rintro e w5 ⟨rfl, hb5⟩
    have N5 := Lib.hid (N4.out.trans (hb5.mono N4.out.size))
    clear hb5
    go_wp2_with fail
    refine (parseF _ _).mono ?_
    rw [HP.out]
    rintro e w6 ⟨rfl, hb6⟩
    have N6 := Lib.hid (N5.out.trans (hb6.mono N5.out.size))
    clear hb6
    have T6 := Lib.hid (HT.out.below N6.out)
    go_wp2_with (go_at_call 19; refine (weekday_yes _ _ (by omega) (by omega)).mono ?_; rintro e w' ⟨rfl, rfl⟩)
    refine (format_yes _ _ T6.out n0 (by omega)).mono ?_
    rintro e w7 ⟨rfl, hb7⟩
    have N7 := Lib.hid (N6.out.trans (hb7.mono N6.out.size))
    clear hb7
    have T7 := Lib.hid (HT.out.below N7.out)
    go_wp2_with fail
    refine (format_yes _ _ T7.out o0 o1).mono ?_
    rintro e w8 ⟨rfl, hb8⟩
    have N8 := Lib.hid (N7.out.trans (hb8.mono N7.out.size))
    clear hb8
    go_wp2_with fail
    go_ret
    exact ⟨rfl, N8.out⟩
set_option maxRecDepth 100000 in
theorem steps_walk (n o : Int) (w : World) (ht : Tab w) :
    Calls Tryd.prog 4 #[.int .i64 n, .int .i64 o] w fun e w' => e = .returned (.bool true) ∧ Below w.heap.size w w' := by
  by_cases n0 : 0 ≤ n
  · by_cases n1 : n < 65536
    · by_cases o0 : 0 ≤ o
      · by_cases o1 : o ≤ 65536
        · exact steps_rest n o _ _ _ w ht n0 n1 o0 o1 (nexts_c n n0) fun w => date_yes (n + 1) w (by omega) (by omega)
        · have HT := Lib.hid ht
          clear ht
          go_enter Tryd.func4, Tryd.ntmps4
          go_wp2_with (go_at_call 10; refine (awake_true _ HT.out).mono ?_; rintro e w1 ⟨rfl, hb1⟩)
          go_ret
          exact ⟨rfl, hb1⟩
      · have HT := Lib.hid ht
        clear ht
        go_enter Tryd.func4, Tryd.ntmps4
        go_wp2_with (go_at_call 10; refine (awake_true _ HT.out).mono ?_; rintro e w1 ⟨rfl, hb1⟩)
        go_ret
        exact ⟨rfl, hb1⟩
    · have HT := Lib.hid ht
      clear ht
      go_enter Tryd.func4, Tryd.ntmps4
      go_wp2_with (go_at_call 10; refine (awake_true _ HT.out).mono ?_; rintro e w1 ⟨rfl, hb1⟩)
      go_ret
      exact ⟨rfl, hb1⟩
  · have HT := Lib.hid ht
    clear ht
    go_enter Tryd.func4, Tryd.ntmps4
    go_wp2_with (go_at_call 10; refine (awake_true _ HT.out).mono ?_; rintro e w1 ⟨rfl, hb1⟩)
    go_ret
    exact ⟨rfl, hb1⟩
end Go.Proofs.YtodlkjdmhfcpkaaDoor
