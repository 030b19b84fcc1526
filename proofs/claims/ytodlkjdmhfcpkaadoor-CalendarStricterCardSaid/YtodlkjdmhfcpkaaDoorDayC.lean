/-
  The contract of the reference's Day: the number of a date that is a day's; else zero and the error.
-/
import Derived.Test.YtodlkjdmhfcpkaaDoorDayB
namespace Go.Proofs.YtodlkjdmhfcpkaaDoor
open Go.RowKit

/-- What the rounds up to a year have added. -/
def sumTo (y m t : Int) : Int := if t ≤ y then Cal.fst t else Cal.fst y + Cal.cum y m
theorem sumTo_le {y m t : Int} (h : t ≤ y) : sumTo y m t = Cal.fst t := if_pos h
theorem sumTo_gt {y m t : Int} (h : y < t) : sumTo y m t = Cal.fst y + Cal.cum y m := if_neg (by omega)
theorem sum_year (t : Int) (h : 2000 ≤ t) : Cal.fst t + Cal.cum t 13 = Cal.fst (t + 1) := by
  rw [Cal.fst_succ t h, Cal.cum_13]; omega
set_option maxHeartbeats 2000000 in
theorem refDay_loop (y m d : Int) (w : World) (y1 : 2000 ≤ y) (y2 : y ≤ 2179) (m1 : 1 ≤ m) (m2 : m ≤ 12) (d1 : 1 ≤ d) (d2 : d ≤ Cal.dim y m) (b : Bool) (hn : Hid (decide (Cal.num y m d ≤ 65536) = b)) :
    Calls Tryd.prog 14 #[.int .i64 y, .int .i64 m, .int .i64 d] w fun e w' => e = .returned (.tuple #[.int .i64 (bif b then Cal.num y m d else 0), .int .i64 (bif b then 0 else 2)]) ∧ w = w' := by
  have db := Cal.dim_bd y m
  have hcm := Cal.cum_bd y m m1 (by omega)
  have hL := Cal.lpI_01 y
  have hfy := Cal.fst_bd y y1 (by omega)
  go_enter Tryd.func14, Tryd.ntmps14
  go_wp2_with (first | (go_at_call 34; refine (days_any _ _ _ (by omega) (by omega) (by omega) (by omega)).mono ?_; rintro e w' ⟨rfl, rfl⟩))
  go_loop [8, 9] (fun s i => ∃ t : Int, 2000 ≤ t ∧ t ≤ y + 1 ∧ i = .int .i64 t ∧ s = .int .i64 (d - 1 + sumTo y m t)) (fun _ i => (3000 - intOf i).toNat)
  case atStart => exact ⟨2000, by omega, by omega, rfl, by rw [sumTo_le y1, Cal.fst_zero]; simp⟩
  case round =>
    obtain ⟨t, ht1, ht2, rfl, rfl⟩ := hrel
    by_cases hle : t ≤ y
    · rw [sumTo_le hle]
      have ft := Cal.fst_bd t ht1 (by omega)
      have HLt := Cal.lpI_01 t
      have HS := Lib.hid (sum_year t ht1)
      by_cases hlt : t < y
      · have HG := Lib.hid (sumTo_le (y := y) (m := m) (t := t + 1) (by omega))
        go_wp2_with fail
        go_loop [8, 10] (fun s i => ∃ k : Int, 1 ≤ k ∧ k ≤ 13 ∧ i = .int .i64 k ∧ s = .int .i64 (d - 1 + (Cal.fst t + Cal.cum t k))) (fun _ i => (20 - intOf i).toNat)
        case atStart => exact ⟨1, by omega, by omega, rfl, by simp [Cal.cum]⟩
        case round =>
          obtain ⟨k, hk1, hk2, rfl, rfl⟩ := hrel
          have cb := Cal.cum_bd t k hk1 (by omega)
          have cd := Cal.dim_bd t k
          by_cases hk : k ≤ 12
          · have HC := Lib.hid (Cal.cum_succ t k hk1 hk)
            go_wp2_with (first | (go_at_call 34; refine (days_any _ _ _ (by omega) (by omega) (by omega) (by omega)).mono ?_; rintro e w' ⟨rfl, rfl⟩))
            go_round
            case rel => exact ⟨k + 1, by omega, by omega, rfl, by rw [HC.out]; congr 1; omega⟩
            case measure => simp [intOf]; omega
          · obtain rfl : k = 13 := by omega
            rw [HS.out]
            have ft' := Cal.fst_bd (t + 1) (by omega) (by omega)
            go_wp2_with fail
            go_round
            case rel => exact ⟨t + 1, by omega, by omega, rfl, by rw [HG.out]⟩
            case measure => simp [intOf]; omega
      · obtain rfl : t = y := by omega
        have HG := Lib.hid (sumTo_gt (y := t) (m := m) (t := t + 1) (by omega))
        go_wp2_with fail
        go_loop [8, 10] (fun s i => ∃ k : Int, 1 ≤ k ∧ k ≤ m ∧ i = .int .i64 k ∧ s = .int .i64 (d - 1 + (Cal.fst t + Cal.cum t k))) (fun _ i => (20 - intOf i).toNat)
        case atStart => exact ⟨1, by omega, by omega, rfl, by simp [Cal.cum]⟩
        case round =>
          obtain ⟨k, hk1, hk2, rfl, rfl⟩ := hrel
          have cb := Cal.cum_bd t k hk1 (by omega)
          have cd := Cal.dim_bd t k
          by_cases hk : k < m
          · have HC := Lib.hid (Cal.cum_succ t k hk1 (by omega))
            go_wp2_with (first | (go_at_call 34; refine (days_any _ _ _ (by omega) (by omega) (by omega) (by omega)).mono ?_; rintro e w' ⟨rfl, rfl⟩))
            go_round
            case rel => exact ⟨k + 1, by omega, by omega, rfl, by rw [HC.out]; congr 1; omega⟩
            case measure => simp [intOf]; omega
          · obtain rfl : k = m := by omega
            go_wp2_with fail
            go_round
            case rel => exact ⟨t + 1, by omega, by omega, rfl, by rw [HG.out]⟩
            case measure => simp [intOf]; omega
    · rw [sumTo_gt (by omega)]
      have HD : d - 1 + (Cal.fst y + Cal.cum y m) = Cal.num y m d := by unfold Cal.num; omega
      cases b with
      | true =>
        have HN := hn.out
        have hle : d - 1 + (Cal.fst y + Cal.cum y m) ≤ 65536 := by simp at HN; omega
        have HD' := Lib.hid HD
        clear HD
        go_wp2_with (go_at_call 33; refine (refIsDay_yes _ _ (by omega) hle).mono ?_; rintro e w' ⟨rfl, rfl⟩)
        go_ret2
        exact ⟨by rw [HD'.out]; rfl, rfl⟩
      | false =>
        have HN := hn.out
        have hle : 65536 < d - 1 + (Cal.fst y + Cal.cum y m) := by simp at HN; omega
        clear HD
        go_wp2_with (go_at_call 33; refine (refIsDay_no _ _ (Or.inr hle)).mono ?_; rintro e w' ⟨rfl, rfl⟩)
        go_ret2
        exact ⟨rfl, rfl⟩
theorem refDay_yes (y m d : Int) (w : World) (h : IsDate y m d) :
    Calls Tryd.prog 14 #[.int .i64 y, .int .i64 m, .int .i64 d] w fun e w' => e = .returned (.tuple #[.int .i64 (Cal.num y m d), .int .i64 0]) ∧ w = w' :=
  refDay_loop y m d w h.y1 h.y2 h.m1 h.m2 h.d1 h.d2 true (decide_eq_true h.n)
theorem refDay_no (y m d : Int) (w : World) (h : ¬ IsDate y m d) :
    Calls Tryd.prog 14 #[.int .i64 y, .int .i64 m, .int .i64 d] w fun e w' => e = .returned (.tuple #[.int .i64 0, .int .i64 2]) ∧ w = w' := by
  by_cases y1 : 2000 ≤ y
  · by_cases y2 : y ≤ 2179
    · by_cases m1 : 1 ≤ m
      · by_cases m2 : m ≤ 12
        · by_cases d1 : 1 ≤ d
          · by_cases d2 : d ≤ Cal.dim y m
            · exact refDay_loop y m d w y1 y2 m1 m2 d1 d2 false (decide_eq_false fun hn => h ⟨y1, y2, m1, m2, d1, d2, hn⟩)
            · clear h
              go_enter Tryd.func14, Tryd.ntmps14
              go_wp2_with (first | (go_at_call 34; refine (days_any _ _ _ (by omega) (by omega) (by omega) (by omega)).mono ?_; rintro e w' ⟨rfl, rfl⟩))
              go_ret2
              exact ⟨rfl, rfl⟩
          · clear h
            go_enter Tryd.func14, Tryd.ntmps14
            go_wp2_with fail
            go_ret2
            exact ⟨rfl, rfl⟩
        · clear h
          go_enter Tryd.func14, Tryd.ntmps14
          go_wp2_with fail
          go_ret2
          exact ⟨rfl, rfl⟩
      · clear h
        go_enter Tryd.func14, Tryd.ntmps14
        go_wp2_with fail
        go_ret2
        exact ⟨rfl, rfl⟩
    · clear h
      go_enter Tryd.func14, Tryd.ntmps14
      go_wp2_with fail
      go_ret2
      exact ⟨rfl, rfl⟩
  · clear h
    go_enter Tryd.func14, Tryd.ntmps14
    go_wp2_with fail
    go_ret2
    exact ⟨rfl, rfl⟩
end Go.Proofs.YtodlkjdmhfcpkaaDoor
