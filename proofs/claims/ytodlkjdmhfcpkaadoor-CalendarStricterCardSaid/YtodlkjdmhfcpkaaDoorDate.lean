/-
  The contracts of Date, the program's and the reference's: for a day the date of that day, for another number zeros.
-/
import Derived.Test.YtodlkjdmhfcpkaaDoorLeaf
namespace Go.Proofs.YtodlkjdmhfcpkaaDoor
open Go.RowKit

theorem index_lens0 (y : Int) (w : World) : (Instr.index 51 (.agg (lens y)) (.int .i64 ((0 : Nat) : Int))).run Tryd.prog w = .ok (.int .i64 (Cal.dim y ((0 : Nat) + 1))) w := by kernel_rfl
theorem index_lens1 (y : Int) (w : World) : (Instr.index 51 (.agg (lens y)) (.int .i64 ((1 : Nat) : Int))).run Tryd.prog w = .ok (.int .i64 (Cal.dim y ((1 : Nat) + 1))) w := by kernel_rfl
theorem index_lens2 (y : Int) (w : World) : (Instr.index 51 (.agg (lens y)) (.int .i64 ((2 : Nat) : Int))).run Tryd.prog w = .ok (.int .i64 (Cal.dim y ((2 : Nat) + 1))) w := by kernel_rfl
theorem index_lens3 (y : Int) (w : World) : (Instr.index 51 (.agg (lens y)) (.int .i64 ((3 : Nat) : Int))).run Tryd.prog w = .ok (.int .i64 (Cal.dim y ((3 : Nat) + 1))) w := by kernel_rfl
theorem index_lens4 (y : Int) (w : World) : (Instr.index 51 (.agg (lens y)) (.int .i64 ((4 : Nat) : Int))).run Tryd.prog w = .ok (.int .i64 (Cal.dim y ((4 : Nat) + 1))) w := by kernel_rfl
theorem index_lens5 (y : Int) (w : World) : (Instr.index 51 (.agg (lens y)) (.int .i64 ((5 : Nat) : Int))).run Tryd.prog w = .ok (.int .i64 (Cal.dim y ((5 : Nat) + 1))) w := by kernel_rfl
theorem index_lens6 (y : Int) (w : World) : (Instr.index 51 (.agg (lens y)) (.int .i64 ((6 : Nat) : Int))).run Tryd.prog w = .ok (.int .i64 (Cal.dim y ((6 : Nat) + 1))) w := by kernel_rfl
theorem index_lens7 (y : Int) (w : World) : (Instr.index 51 (.agg (lens y)) (.int .i64 ((7 : Nat) : Int))).run Tryd.prog w = .ok (.int .i64 (Cal.dim y ((7 : Nat) + 1))) w := by kernel_rfl
theorem index_lens8 (y : Int) (w : World) : (Instr.index 51 (.agg (lens y)) (.int .i64 ((8 : Nat) : Int))).run Tryd.prog w = .ok (.int .i64 (Cal.dim y ((8 : Nat) + 1))) w := by kernel_rfl
theorem index_lens9 (y : Int) (w : World) : (Instr.index 51 (.agg (lens y)) (.int .i64 ((9 : Nat) : Int))).run Tryd.prog w = .ok (.int .i64 (Cal.dim y ((9 : Nat) + 1))) w := by kernel_rfl
theorem index_lens10 (y : Int) (w : World) : (Instr.index 51 (.agg (lens y)) (.int .i64 ((10 : Nat) : Int))).run Tryd.prog w = .ok (.int .i64 (Cal.dim y ((10 : Nat) + 1))) w := by kernel_rfl
theorem index_lens11 (y : Int) (w : World) : (Instr.index 51 (.agg (lens y)) (.int .i64 ((11 : Nat) : Int))).run Tryd.prog w = .ok (.int .i64 (Cal.dim y ((11 : Nat) + 1))) w := by kernel_rfl
theorem index_lens (y : Int) (k : Nat) (hk : k < 12) (w : World) : (Instr.index 51 (.agg (lens y)) (.int .i64 (k : Int))).run Tryd.prog w = .ok (.int .i64 (Cal.dim y (k + 1))) w := by
  have h : k = 0 ∨ k = 1 ∨ k = 2 ∨ k = 3 ∨ k = 4 ∨ k = 5 ∨ k = 6 ∨ k = 7 ∨ k = 8 ∨ k = 9 ∨ k = 10 ∨ k = 11 := by omega
  rcases h with rfl | rfl | rfl | rfl | rfl | rfl | rfl | rfl | rfl | rfl | rfl | rfl
  · exact index_lens0 y w
  · exact index_lens1 y w
  · exact index_lens2 y w
  · exact index_lens3 y w
  · exact index_lens4 y w
  · exact index_lens5 y w
  · exact index_lens6 y w
  · exact index_lens7 y w
  · exact index_lens8 y w
  · exact index_lens9 y w
  · exact index_lens10 y w
  · exact index_lens11 y w

theorem date_no (n : Int) (w : World) (h : n < 0 ∨ 65536 < n) :
    Calls Tryd.prog 11 #[.int .i64 n] w fun e w' => e = .returned (.tuple #[.int .i64 0, .int .i64 0, .int .i64 0]) ∧ w = w' := by
  go_enter Tryd.func11, Tryd.ntmps11
  go_wp2_with (go_at_call 30; refine (isDay_no _ _ h).mono ?_; rintro e w' ⟨rfl, rfl⟩)
  go_ret3
  exact ⟨rfl, rfl⟩
theorem num_ret {a b c a' b' c' : Int} (h1 : a = a') (h2 : b = b') (h3 : c = c') : Ending.returned (.tuple #[.int .i64 a, .int .i64 b, .int .i64 c]) = .returned (.tuple #[.int .i64 a', .int .i64 b', .int .i64 c']) := by rw [h1, h2, h3]
set_option maxHeartbeats 1000000 in
theorem date_yes (n : Int) (w : World) (h0 : 0 ≤ n) (h1 : n ≤ 65536) :
    Calls Tryd.prog 11 #[.int .i64 n] w fun e w' => e = .returned (.tuple #[.int .i64 (Cal.cy n), .int .i64 (Cal.cm n), .int .i64 (Cal.cd n)]) ∧ Below w.heap.size w w' := by
  have g0 := Cal.fst_guess n h0 h1
  go_enter Tryd.func11, Tryd.ntmps11
  go_wp2_with (go_at_call 30; refine (isDay_yes _ _ h0 h1).mono ?_; rintro e w' ⟨rfl, rfl⟩)
  go_loop [5] (fun t => ∃ y : Int, 2000 ≤ y ∧ y ≤ 2180 ∧ Cal.fst y ≤ n ∧ t = .int .i64 y) (fun t => (2200 - intOf t).toNat)
  case atStart => exact ⟨_, by omega, by omega, g0, by first | rfl | (congr 1; omega)⟩
  case round =>
    obtain ⟨y, hy1, hy2, hy3, rfl⟩ := hrel
    clear g0
    by_cases hc : Cal.fst (y + 1) ≤ n
    · go_wp2_with (go_at_call 31; refine (first_any _ _ (by omega) (by omega)).mono ?_; rintro e w' ⟨rfl, rfl⟩)
      go_round
      case rel => exact ⟨y + 1, by omega, by have := Cal.fst_top; have := Cal.fst_lt 2180 (y + 1); have := Cal.lpI_01 2180; omega, hc, rfl⟩
      case measure => simp [intOf]; omega
    · have fb := Cal.fst_bd y hy1 (by omega)
      go_wp2_with (first | (go_at_call 31; refine (first_any _ _ (by omega) (by omega)).mono ?_; rintro e w' ⟨rfl, rfl⟩) | (go_at_call 32; refine (lengths_any _ _ (by omega) (by omega)).mono ?_; rintro e w1 ⟨rfl, hb⟩))
      have hn : n < Cal.fst (y + 1) := by omega
      clear hc
      have fs := Cal.fst_succ y hy1
      have hL := Cal.lpI_01 y
      go_loop [0, 27] (fun r i => ∃ k : Nat, k ≤ 12 ∧ i = .int .i64 k ∧ 0 ≤ n - Cal.fst y - Cal.cum y (k + 1) ∧ r = .int .i64 (n - Cal.fst y - Cal.cum y (k + 1))) (fun _ i => 12 - (intOf i).toNat)
      case atStart => exact ⟨0, by omega, rfl, by simp [Cal.cum]; omega, by simp [Cal.cum]⟩
      case round =>
        obtain ⟨k, hk, rfl, hr, rfl⟩ := hrel
        by_cases hlt : k < 12
        · have cb := Cal.cum_bd y (k + 1) (by omega) (by omega)
          have db := Cal.dim_bd y (k + 1)
          have cs := Cal.cum_succ y (k + 1) (by omega) (by omega)
          have hi := index_lens y k hlt
          by_cases hd : n - Cal.fst y - Cal.cum y (k + 1) < Cal.dim y (k + 1)
          · have hv : Cal.Valid y (k + 1) (n - Cal.fst y - Cal.cum y (k + 1) + 1) := ⟨hy1, by omega, by omega, by omega, by omega⟩
            have HE := Lib.hid (Cal.c_of n _ _ _ h0 hv (by unfold Cal.num; omega))
            clear cs fs hv
            go_wp2_with fail
            go_ret3
            obtain ⟨e1, e2, e3⟩ := HE.out
            exact ⟨num_ret e1.symm e2.symm e3.symm, hb⟩
          · have HC := Lib.hid cs
            clear cs fs
            go_wp2_with fail
            go_round
            case rel => exact ⟨k + 1, by omega, by go_num, by have := HC.out; simp at this ⊢; omega, by have := HC.out; simp at this ⊢; omega⟩
            case measure => simp [intOf]; omega
        · exfalso
          obtain rfl : k = 12 := by omega
          have : Cal.cum y ((12 : Nat) + 1) = 365 + Cal.lpI y := rfl
          omega
end Go.Proofs.YtodlkjdmhfcpkaaDoor
