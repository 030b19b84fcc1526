/-
  The contract of the reference's Date: for a day the date of that day, for another number zeros.
-/
import Derived.Test.YtodlkjdmhfcpkaaDoorDate
namespace Go.Proofs.YtodlkjdmhfcpkaaDoor
open Go.RowKit

theorem refDate_no (n : Int) (w : World) (h : n < 0 ∨ 65536 < n) :
    Calls Tryd.prog 12 #[.int .i64 n] w fun e w' => e = .returned (.tuple #[.int .i64 0, .int .i64 0, .int .i64 0]) ∧ w = w' := by
  go_enter Tryd.func12, Tryd.ntmps12
  go_wp2_with (go_at_call 33; refine (refIsDay_no _ _ h).mono ?_; rintro e w' ⟨rfl, rfl⟩)
  go_ret3
  exact ⟨rfl, rfl⟩
theorem refDate_next (n y m : Int) (hy1 : 2000 ≤ y) (hy2 : y ≤ 2180) (hm2 : m ≤ 12) (hn1 : n ≤ 65536) (hm1 : 1 ≤ m)
    (h : 0 ≤ n - Cal.fst y - Cal.cum y m - Cal.dim y m) : (m < 12 → 0 ≤ n - Cal.fst y - Cal.cum y (m + 1)) ∧ (m = 12 → y + 1 ≤ 2180 ∧ 0 ≤ n - Cal.fst (y + 1) - Cal.cum (y + 1) 1 ∧ n - Cal.fst (y + 1) - Cal.cum (y + 1) 1 = n - Cal.fst y - Cal.cum y m - Cal.dim y m) := by
  have c := Cal.cum_succ y m hm1 hm2
  refine ⟨fun _ => by omega, ?_⟩
  rintro rfl
  have f := Cal.fst_succ y hy1
  have g : Cal.cum y (12 + 1) = 365 + Cal.lpI y := Cal.cum_13 y
  have g1 := Cal.cum_one (y + 1)
  have t := Cal.fst_top
  refine ⟨?_, by omega, by omega⟩
  have := Cal.fst_lt 2180 (y + 1)
  have := Cal.lpI_01 2180
  omega
set_option maxHeartbeats 1000000 in
theorem refDate_yes (n : Int) (w : World) (h0 : 0 ≤ n) (h1 : n ≤ 65536) :
    Calls Tryd.prog 12 #[.int .i64 n] w fun e w' => e = .returned (.tuple #[.int .i64 (Cal.cy n), .int .i64 (Cal.cm n), .int .i64 (Cal.cd n)]) ∧ w = w' := by
  go_enter Tryd.func12, Tryd.ntmps12
  go_wp2_with (go_at_call 33; refine (refIsDay_yes _ _ h0 h1).mono ?_; rintro e w' ⟨rfl, rfl⟩)
  go_loop [0, 5, 6] (fun r a b => ∃ y m : Int, 2000 ≤ y ∧ y ≤ 2180 ∧ 1 ≤ m ∧ m ≤ 12 ∧ a = .int .i64 y ∧ b = .int .i64 m ∧ 0 ≤ n - Cal.fst y - Cal.cum y m ∧ r = .int .i64 (n - Cal.fst y - Cal.cum y m)) (fun r _ _ => (intOf r).toNat)
  case atStart => exact ⟨2000, 1, by omega, by omega, by omega, by omega, rfl, rfl, by simp [Cal.cum, Cal.fst_zero]; omega, by simp [Cal.cum, Cal.fst_zero]⟩
  case round =>
    obtain ⟨y, m, hy1, hy2, hm1, hm2, rfl, rfl, hr, rfl⟩ := hrel
    have fb := Cal.fst_bd y hy1 (by omega)
    have cb := Cal.cum_bd y m hm1 (by omega)
    have hL := Cal.lpI_01 y
    have db := Cal.dim_bd y m
    by_cases hc : Cal.dim y m ≤ n - Cal.fst y - Cal.cum y m
    · have HN := Lib.hid (refDate_next n y m hy1 hy2 hm2 h1 hm1 (by omega))
      have HC := Lib.hid (Cal.cum_succ y m hm1 hm2)
      by_cases hm : 12 < m + 1
      · obtain rfl : m = 12 := by omega
        go_wp2_with (go_at_call 34; refine (days_any _ _ _ (by omega) (by omega) (by omega) (by omega)).mono ?_; rintro e w' ⟨rfl, rfl⟩)
        go_round
        case rel => exact ⟨y + 1, 1, by omega, (HN.out.2 (by simp)).1, by omega, by omega, rfl, rfl, (HN.out.2 (by simp)).2.1, by rw [(HN.out.2 (by simp)).2.2]⟩
        case measure => simp [intOf]; omega
      · go_wp2_with (go_at_call 34; refine (days_any _ _ _ (by omega) (by omega) (by omega) (by omega)).mono ?_; rintro e w' ⟨rfl, rfl⟩)
        go_round
        case rel => exact ⟨y, m + 1, by omega, by omega, by omega, by omega, rfl, rfl, HN.out.1 (by omega), by rw [HC.out]; congr 1; omega⟩
        case measure => simp [intOf]; omega
    · have HE := Lib.hid (Cal.c_of n y m (n - Cal.fst y - Cal.cum y m + 1) h0 ⟨hy1, by omega, by omega, by omega, by omega⟩ (by unfold Cal.num; omega))
      go_wp2_with (go_at_call 34; refine (days_any _ _ _ (by omega) (by omega) (by omega) (by omega)).mono ?_; rintro e w' ⟨rfl, rfl⟩)
      go_ret3
      obtain ⟨e1, e2, e3⟩ := HE.out
      exact ⟨num_ret e1.symm e2.symm e3.symm, rfl⟩
end Go.Proofs.YtodlkjdmhfcpkaaDoor
