/-
  The contracts of AddMonths, the program's and the reference's; and of Day and Parse with their answers as functions.
-/
import Derived.Test.YtodlkjdmhfcpkaaDoorParseB
import Derived.Test.YtodlkjdmhfcpkaaDoorDayA
import Derived.Lib.MinMax
namespace Go.Proofs.YtodlkjdmhfcpkaaDoor
open Go.RowKit

/-- What Day answers. -/
noncomputable def dayV (y m d : Int) : Int × Int := open Classical in if IsDate y m d then (Cal.num y m d, 0) else (0, 2)
theorem dayV_yes {y m d : Int} (h : IsDate y m d) : dayV y m d = (Cal.num y m d, 0) := by unfold dayV; rw [if_pos h]
theorem dayV_no {y m d : Int} (h : ¬ IsDate y m d) : dayV y m d = (0, 2) := by unfold dayV; rw [if_neg h]
theorem day_any (y m d : Int) (w : World) :
    Calls Tryd.prog 13 #[.int .i64 y, .int .i64 m, .int .i64 d] w fun e w' => e = .returned (.tuple #[.int .i64 (dayV y m d).1, .int .i64 (dayV y m d).2]) ∧ Below w.heap.size w w' := by
  by_cases h : IsDate y m d
  · rw [dayV_yes h]; exact day_yes y m d w h
  · rw [dayV_no h]; exact day_no y m d w h
theorem refDay_any (y m d : Int) (w : World) :
    Calls Tryd.prog 14 #[.int .i64 y, .int .i64 m, .int .i64 d] w fun e w' => e = .returned (.tuple #[.int .i64 (dayV y m d).1, .int .i64 (dayV y m d).2]) ∧ w = w' := by
  by_cases h : IsDate y m d
  · rw [dayV_yes h]; exact refDay_yes y m d w h
  · rw [dayV_no h]; exact refDay_no y m d w h
/-- What Parse answers. -/
noncomputable def parseV (s : ByteArray) : Int × Int := open Classical in if isText s then dayV (vals s 10 0) (vals s 10 1) (vals s 10 2) else (0, 3)
theorem parseV_of {s : ByteArray} {e : Ending} (h : ParseOut s e) : e = .returned (.tuple #[.int .i64 (parseV s).1, .int .i64 (parseV s).2]) := by
  unfold parseV
  rcases h with ⟨t, d, rfl⟩ | ⟨t, d, rfl⟩ | ⟨t, rfl⟩
  · rw [if_pos t, dayV_yes d]
  · rw [if_pos t, dayV_no d]
  · rw [if_neg t]
theorem parseF (s : ByteArray) (w : World) : Calls Tryd.prog 15 #[.string s] w fun e w' => e = .returned (.tuple #[.int .i64 (parseV s).1, .int .i64 (parseV s).2]) ∧ Below w.heap.size w w' :=
  (parse_any s w).mono fun _ _ h => ⟨parseV_of h.1, h.2⟩
theorem refParseF (s : ByteArray) (w : World) : Calls Tryd.prog 16 #[.string s] w fun e w' => e = .returned (.tuple #[.int .i64 (parseV s).1, .int .i64 (parseV s).2]) ∧ Below w.heap.size w w' :=
  (refParse_any s w).mono fun _ _ h => ⟨parseV_of h.1, h.2⟩

/-- The month some months behind a day's, counted from the year 0 on. -/
def amN (n k : Int) : Int := 12 * Cal.cy n + Cal.cm n - 1 + k
/-- What AddMonths answers for a day and a number of months in its range. -/
noncomputable def amV (n k : Int) : Int × Int := dayV (amN n k / 12) (amN n k % 12 + 1) (min (Cal.cd n) (Cal.dim (amN n k / 12) (amN n k % 12 + 1)))
structure AmOk (n k : Int) : Prop where
  n0 : 0 ≤ n
  n1 : n ≤ 65536
  k0 : -3000 ≤ k
  k1 : k ≤ 3000
theorem index_lensI (y i : Int) (h0 : 0 ≤ i) (h1 : i < 12) (w : World) : (Instr.index 51 (.agg (lens y)) (.int .i64 i)).run Tryd.prog w = .ok (.int .i64 (Cal.dim y (i + 1))) w := by
  obtain ⟨k, rfl⟩ : ∃ k : Nat, i = k := ⟨i.toNat, by omega⟩
  exact index_lens y k (by omega) w
theorem amBd (n k : Int) (h : AmOk n k) : 12 * 2000 + 1 - 1 - 3000 ≤ 12 * Cal.cy n + Cal.cm n - 1 + k ∧ 12 * Cal.cy n + Cal.cm n - 1 + k ≤ 12 * 2179 + 12 - 1 + 3000 := by
  have a := Cal.c_valid n
  have := a.y2; have := a.m1; have := a.m12; have := Cal.c_year n h.n0 h.n1
  have := h.k0; have := h.k1
  omega
set_option maxHeartbeats 1000000 in
theorem addMonths_yes (n k : Int) (w : World) (h : AmOk n k) :
    Calls Tryd.prog 21 #[.int .i64 n, .int .i64 k] w fun e w' => e = .returned (.tuple #[.int .i64 (amV n k).1, .int .i64 (amV n k).2]) ∧ Below w.heap.size w w' := by
  obtain ⟨b0, b1⟩ := amBd n k h
  obtain ⟨n0, n1, k0, k1⟩ := h
  have HV := Lib.hid (show amV n k = dayV ((12 * Cal.cy n + Cal.cm n - 1 + k) / 12) ((12 * Cal.cy n + Cal.cm n - 1 + k) % 12 + 1) (min (Cal.cd n) (Cal.dim ((12 * Cal.cy n + Cal.cm n - 1 + k) / 12) ((12 * Cal.cy n + Cal.cm n - 1 + k) % 12 + 1))) from rfl)
  have v := Cal.c_valid n
  have y0 := v.y2
  have y1 := Cal.c_year n n0 n1
  have m0 := v.m1
  have m1 := v.m12
  clear v
  by_cases hY : 2000 ≤ (12 * Cal.cy n + Cal.cm n - 1 + k) / 12
  · have hi := index_lensI ((12 * Cal.cy n + Cal.cm n - 1 + k) / 12) ((12 * Cal.cy n + Cal.cm n - 1 + k) % 12) (by omega) (by omega)
    go_enter Tryd.func21, Tryd.ntmps21
    go_wp2_with (first | (go_at_call 30; refine (isDay_yes _ _ n0 n1).mono ?_; rintro e w' ⟨rfl, rfl⟩) | (go_at_call 11; refine (date_yes _ _ n0 n1).mono ?_; rintro e w0 ⟨rfl, hb0⟩))
    refine (lengths_any _ _ (by omega) (by omega)).mono ?_
    rintro e w1 ⟨rfl, hb1⟩
    go_wp2_with fail
    refine (day_any _ _ _ _).mono ?_
    rintro e w2 ⟨rfl, hb2⟩
    go_wp2_with fail
    go_ret2
    exact ⟨by rw [HV.out]; rfl, (hb0.trans (hb1.mono hb0.size)).trans (hb2.mono (Nat.le_trans hb0.size hb1.size))⟩
  · have hV : amV n k = (0, 2) := by rw [HV.out]; exact dayV_no fun d => hY d.y1
    rw [hV]
    clear hV HV
    go_enter Tryd.func21, Tryd.ntmps21
    go_wp2_with (first | (go_at_call 30; refine (isDay_yes _ _ n0 n1).mono ?_; rintro e w' ⟨rfl, rfl⟩) | (go_at_call 11; refine (date_yes _ _ n0 n1).mono ?_; rintro e w0 ⟨rfl, hb0⟩))
    go_ret2
    exact ⟨rfl, hb0⟩
theorem addMonths_no (n k : Int) (w : World) (h : ¬ AmOk n k) :
    Calls Tryd.prog 21 #[.int .i64 n, .int .i64 k] w fun e w' => e = .returned (.tuple #[.int .i64 0, .int .i64 2]) ∧ Below w.heap.size w w' := by
  by_cases hd : 0 ≤ n ∧ n ≤ 65536
  · obtain ⟨n0, n1⟩ := hd
    by_cases k0 : -3000 ≤ k
    · by_cases k1 : k ≤ 3000
      · exact absurd ⟨n0, n1, k0, k1⟩ h
      · clear h
        go_enter Tryd.func21, Tryd.ntmps21
        go_wp2_with (go_at_call 30; refine (isDay_yes _ _ n0 n1).mono ?_; rintro e w' ⟨rfl, rfl⟩)
        go_ret2
        exact ⟨rfl, Below.refl _ _⟩
    · clear h
      go_enter Tryd.func21, Tryd.ntmps21
      go_wp2_with (go_at_call 30; refine (isDay_yes _ _ n0 n1).mono ?_; rintro e w' ⟨rfl, rfl⟩)
      go_ret2
      exact ⟨rfl, Below.refl _ _⟩
  · have hd' : n < 0 ∨ 65536 < n := by omega
    clear h hd
    go_enter Tryd.func21, Tryd.ntmps21
    go_wp2_with (go_at_call 30; refine (isDay_no _ _ hd').mono ?_; rintro e w' ⟨rfl, rfl⟩)
    go_ret2
    exact ⟨rfl, Below.refl _ _⟩
theorem refAddMonths_no (n k : Int) (w : World) (h : ¬ AmOk n k) :
    Calls Tryd.prog 22 #[.int .i64 n, .int .i64 k] w fun e w' => e = .returned (.tuple #[.int .i64 0, .int .i64 2]) ∧ w = w' := by
  by_cases hd : 0 ≤ n ∧ n ≤ 65536
  · obtain ⟨n0, n1⟩ := hd
    by_cases k0 : -3000 ≤ k
    · by_cases k1 : k ≤ 3000
      · exact absurd ⟨n0, n1, k0, k1⟩ h
      · clear h
        go_enter Tryd.func22, Tryd.ntmps22
        go_wp2_with (go_at_call 33; refine (refIsDay_yes _ _ n0 n1).mono ?_; rintro e w' ⟨rfl, rfl⟩)
        go_ret2
        exact ⟨rfl, rfl⟩
    · clear h
      go_enter Tryd.func22, Tryd.ntmps22
      go_wp2_with (go_at_call 33; refine (refIsDay_yes _ _ n0 n1).mono ?_; rintro e w' ⟨rfl, rfl⟩)
      go_ret2
      exact ⟨rfl, rfl⟩
  · have hd' : n < 0 ∨ 65536 < n := by omega
    clear h hd
    go_enter Tryd.func22, Tryd.ntmps22
    go_wp2_with (go_at_call 33; refine (refIsDay_no _ _ hd').mono ?_; rintro e w' ⟨rfl, rfl⟩)
    go_ret2
    exact ⟨rfl, rfl⟩
theorem am_end (n k y m : Int) (h1 : 1 ≤ m) (h2 : m ≤ 12) (h : 12 * y + m = 12 * Cal.cy n + Cal.cm n + k) : dayV y m (min (Cal.cd n) (Cal.dim y m)) = amV n k := by
  have e : amN n k = 12 * y + (m - 1) := by unfold amN; omega
  have ey : amN n k / 12 = y := by omega
  have em : amN n k % 12 + 1 = m := by omega
  unfold amV; rw [ey, em]
set_option maxHeartbeats 2000000 in
theorem refAddMonths_yes (n k : Int) (w : World) (h : AmOk n k) :
    Calls Tryd.prog 22 #[.int .i64 n, .int .i64 k] w fun e w' => e = .returned (.tuple #[.int .i64 (amV n k).1, .int .i64 (amV n k).2]) ∧ w = w' := by
  obtain ⟨b0, b1⟩ := amBd n k h
  obtain ⟨n0, n1, k0, k1⟩ := h
  have v := Cal.c_valid n
  have y0 := v.y2
  have y1 := Cal.c_year n n0 n1
  have m0 := v.m1
  have m1 := v.m12
  clear v
  go_enter Tryd.func22, Tryd.ntmps22
  go_wp2_with (first | (go_at_call 33; refine (refIsDay_yes _ _ n0 n1).mono ?_; rintro e w' ⟨rfl, rfl⟩) | (go_at_call 12; refine (refDate_yes _ _ n0 n1).mono ?_; rintro e w0 ⟨rfl, rfl⟩))
  go_loop [1, 6, 7] (fun a b c => ∃ q y m : Int, min k 0 ≤ q ∧ q ≤ 3000 ∧ 1700 ≤ y ∧ y ≤ 2500 ∧ 1 ≤ m ∧ m ≤ 12 ∧ 12 * y + m + q = 12 * Cal.cy n + Cal.cm n + k ∧ a = .int .i64 q ∧ b = .int .i64 y ∧ c = .int .i64 m) (fun a _ _ => (intOf a).toNat)
  case atStart => exact ⟨k, Cal.cy n, Cal.cm n, by omega, by omega, by omega, by omega, by omega, by omega, rfl, rfl, rfl, rfl⟩
  case round =>
    obtain ⟨q, y, m, q0, q1, ya, yb, ma, mb, hq, rfl, rfl, rfl⟩ := hrel
    have HQ := Lib.hid hq
    by_cases hp : 0 < q
    · by_cases h12 : 12 < m + 1
      · clear hq
        go_wp2_with fail
        go_round
        case rel => exact ⟨q - 1, y + 1, 1, by omega, by omega, by omega, by have := HQ.out; omega, by omega, by omega, by have := HQ.out; omega, rfl, rfl, rfl⟩
        case measure => simp [intOf]; omega
      · clear hq
        go_wp2_with fail
        go_round
        case rel => exact ⟨q - 1, y, m + 1, by omega, by omega, by omega, by omega, by omega, by omega, by have := HQ.out; omega, rfl, rfl, rfl⟩
        case measure => simp [intOf]; omega
    · clear hq
      go_wp2_with fail
      go_loop [1, 6, 7] (fun a b c => ∃ q y m : Int, -3000 ≤ q ∧ q ≤ 0 ∧ 1700 ≤ y ∧ y ≤ 2500 ∧ 1 ≤ m ∧ m ≤ 12 ∧ 12 * y + m + q = 12 * Cal.cy n + Cal.cm n + k ∧ a = .int .i64 q ∧ b = .int .i64 y ∧ c = .int .i64 m) (fun a _ _ => (3000 + intOf a |> fun x => 3000 - x).toNat)
      case atStart => exact ⟨q, y, m, by omega, by omega, by omega, by omega, by omega, by omega, HQ.out, rfl, rfl, rfl⟩
      case round =>
        clear hp q0 q1 ya yb ma mb HQ
        obtain ⟨q, y, m, q0, q1, ya, yb, ma, mb, hq, rfl, rfl, rfl⟩ := hrel
        have HQ := Lib.hid hq
        by_cases hp : q < 0
        · by_cases h1 : m - 1 < 1
          · clear hq
            go_wp2_with fail
            go_round
            case rel => exact ⟨q + 1, y - 1, 12, by omega, by omega, by have := HQ.out; omega, by omega, by omega, by omega, by have := HQ.out; omega, rfl, rfl, rfl⟩
            case measure => simp [intOf]; omega
          · clear hq
            go_wp2_with fail
            go_round
            case rel => exact ⟨q + 1, y, m - 1, by omega, by omega, by omega, by omega, by omega, by omega, by have := HQ.out; omega, rfl, rfl, rfl⟩
            case measure => simp [intOf]; omega
        · have HE := Lib.hid (am_end n k y m ma mb (by omega))
          clear hq
          go_wp2_with (first | (go_at_call 34; refine (days_any _ _ _ (by omega) (by omega) (by omega) (by omega)).mono ?_; rintro e w' ⟨rfl, rfl⟩) | (go_at_call 14; refine (refDay_any _ _ _ _).mono ?_; rintro e w' ⟨rfl, rfl⟩))
          go_ret2
          exact ⟨by rw [← HE.out]; rfl, rfl⟩
/-- What AddMonths answers. -/
noncomputable def addV (n k : Int) : Int × Int := open Classical in if AmOk n k then amV n k else (0, 2)
theorem addMonths_any (n k : Int) (w : World) :
    Calls Tryd.prog 21 #[.int .i64 n, .int .i64 k] w fun e w' => e = .returned (.tuple #[.int .i64 (addV n k).1, .int .i64 (addV n k).2]) ∧ Below w.heap.size w w' := by
  unfold addV
  by_cases h : AmOk n k
  · rw [if_pos h]; exact addMonths_yes n k w h
  · rw [if_neg h]; exact addMonths_no n k w h
theorem refAddMonths_any (n k : Int) (w : World) :
    Calls Tryd.prog 22 #[.int .i64 n, .int .i64 k] w fun e w' => e = .returned (.tuple #[.int .i64 (addV n k).1, .int .i64 (addV n k).2]) ∧ w = w' := by
  unfold addV
  by_cases h : AmOk n k
  · rw [if_pos h]; exact refAddMonths_yes n k w h
  · rw [if_neg h]; exact refAddMonths_no n k w h
end Go.Proofs.YtodlkjdmhfcpkaaDoor
