/-
  The contract of Day: the number of a date that is a day's; else zero and the error.
-/
import Derived.Test.YtodlkjdmhfcpkaaDoorDate
namespace Go.Proofs.YtodlkjdmhfcpkaaDoor
open Go.RowKit

/-- A date of a day. -/
structure IsDate (y m d : Int) : Prop where
  y1 : 2000 ≤ y
  y2 : y ≤ 2179
  m1 : 1 ≤ m
  m2 : m ≤ 12
  d1 : 1 ≤ d
  d2 : d ≤ Cal.dim y m
  n : Cal.num y m d ≤ 65536

theorem lengths_lit (y : Int) (w : World) (h0 : 0 ≤ y) (h1 : y ≤ 10000) :
    Calls Tryd.prog 32 #[.int .i64 y] w fun e w' => e = .returned (.agg #[.int .i64 31, .int .i64 (28 + Cal.lpI y), .int .i64 31, .int .i64 30, .int .i64 31, .int .i64 30, .int .i64 31, .int .i64 31, .int .i64 30, .int .i64 31, .int .i64 30, .int .i64 31]) ∧ Below w.heap.size w w' := lengths_any y w h0 h1
theorem cell_lens (y : Int) (k : Nat) (hk : k < 12) (w : World) (b : Nat) (hb : b = w.heap.size) : (w.alloc (.cells #[.int .i64 31, .int .i64 (28 + Cal.lpI y), .int .i64 31, .int .i64 30, .int .i64 31, .int .i64 30, .int .i64 31, .int .i64 31, .int .i64 30, .int .i64 31, .int .i64 30, .int .i64 31] 51)).cell? ⟨b, k, none⟩ = some (.int .i64 (Cal.dim y (k + 1))) := by
  subst hb
  have h : k = 0 ∨ k = 1 ∨ k = 2 ∨ k = 3 ∨ k = 4 ∨ k = 5 ∨ k = 6 ∨ k = 7 ∨ k = 8 ∨ k = 9 ∨ k = 10 ∨ k = 11 := by omega
  rcases h with rfl | rfl | rfl | rfl | rfl | rfl | rfl | rfl | rfl | rfl | rfl | rfl <;> simp [World.cell?_alloc_new, Cal.dim]

theorem slice51 (k : Nat) (hk : k ≤ 12) (a : Addr) (w : World) : (Instr.sliceAt 51 (.pointer (some a)) none (some (.int .i64 (k : Int))) none).run Tryd.prog w = .ok (.slice (some a) k 12) w := by
  have hal : Tryd.prog.arrayLen 51 = 12 := by kernel_rfl
  have hsz : (sizeOf (Tryd.prog.elem 51)).run Tryd.prog w = .ok 1 w := by kernel_rfl
  have hu : Tryd.prog.underlying 51 = some (.array (Tryd.prog.arrayLen 51) (Tryd.prog.elem 51)) := by kernel_rfl
  rw [run_sliceAt_array_h w 51 a hu .i64 (k : Int) (by omega) (by rw [hal]; omega), hsz, hal]
  simp [slicedAt, Result.andThen, Addr.add]
theorem day_num (y d : Int) (k : Nat) : Cal.fst y + d - 1 + Cal.cum y ((k : Int) + 1) = Cal.num y (k + 1) d := by unfold Cal.num; omega
set_option maxHeartbeats 1000000 in
theorem day_loop (y m d : Int) (w : World) (y1 : 2000 ≤ y) (y2 : y ≤ 2179) (m1 : 1 ≤ m) (m2 : m ≤ 12) (d1 : 1 ≤ d) (d2 : d ≤ Cal.dim y m) (b : Bool) (hn : Hid (decide (Cal.num y m d ≤ 65536) = b)) :
    Calls Tryd.prog 13 #[.int .i64 y, .int .i64 m, .int .i64 d] w fun e w' => e = .returned (.tuple #[.int .i64 (bif b then Cal.num y m d else 0), .int .i64 (bif b then 0 else 2)]) ∧ Below w.heap.size w w' := by
  have db := Cal.dim_bd y m
  obtain ⟨k, rfl⟩ : ∃ k : Nat, m = k + 1 := ⟨(m - 1).toNat, by omega⟩
  have hk : k < 12 := by omega
  have hk' : k ≤ 12 := by omega
  have fb := Cal.fst_bd y y1 (by omega)
  have hL := Cal.lpI_01 y
  have hce := fun w1 : World => cell_lens y k hk w1 _ rfl
  have hsl := slice51 k hk'
  go_enter Tryd.func13, Tryd.ntmps13
  go_wp2_with (first | (go_at_call 31; refine (first_any _ _ (by omega) (by omega)).mono ?_; rintro e w' ⟨rfl, rfl⟩) | (go_at_call 32; refine (lengths_lit _ _ (by omega) (by omega)).mono ?_; rintro e w1 ⟨rfl, hb⟩))
  clear hce hsl
  have hz := hb.size
  go_loop [9, 47] (fun s i => ∃ j : Nat, j ≤ k ∧ i = .int .i64 j ∧ s = .int .i64 (Cal.fst y + d - 1 + Cal.cum y (j + 1))) (fun _ i => k - (intOf i).toNat)
  case atStart => exact ⟨0, by omega, rfl, by simp [Cal.cum]⟩
  case round =>
    obtain ⟨j, hj, rfl, rfl⟩ := hrel
    have cb := Cal.cum_bd y (j + 1) (by omega) (by omega)
    have cm := Cal.dim_bd y (j + 1)
    by_cases hlt : j < k
    · have hcj := cell_lens y j (by omega) w1 _ rfl
      have HC := Lib.hid (Cal.cum_succ y (j + 1) (by omega) (by omega))
      go_wp2_with fail
      go_round
      case rel => exact ⟨j + 1, by omega, by go_num, by have := HC.out; simp at this ⊢; omega⟩
      case measure => simp [intOf]; omega
    · obtain rfl : j = k := by omega
      have HD := Lib.hid (day_num y d j)
      cases b with
      | true =>
        have HN := hn.out
        have hle : Cal.fst y + d - 1 + Cal.cum y (j + 1) ≤ 65536 := by have := HD.out; simp at HN; omega
        go_wp2_with (go_at_call 30; refine (isDay_yes _ _ (by omega) hle).mono ?_; rintro e w' ⟨rfl, rfl⟩)
        go_ret2
        exact ⟨by rw [HD.out]; rfl, by go_grown⟩
      | false =>
        have HN := hn.out
        have hle : 65536 < Cal.fst y + d - 1 + Cal.cum y (j + 1) := by have := HD.out; simp at HN; omega
        go_wp2_with (go_at_call 30; refine (isDay_no _ _ (Or.inr hle)).mono ?_; rintro e w' ⟨rfl, rfl⟩)
        go_ret2
        exact ⟨rfl, by go_grown⟩
theorem day_yes (y m d : Int) (w : World) (h : IsDate y m d) :
    Calls Tryd.prog 13 #[.int .i64 y, .int .i64 m, .int .i64 d] w fun e w' => e = .returned (.tuple #[.int .i64 (Cal.num y m d), .int .i64 0]) ∧ Below w.heap.size w w' :=
  day_loop y m d w h.y1 h.y2 h.m1 h.m2 h.d1 h.d2 true (decide_eq_true h.n)
theorem day_no (y m d : Int) (w : World) (h : ¬ IsDate y m d) :
    Calls Tryd.prog 13 #[.int .i64 y, .int .i64 m, .int .i64 d] w fun e w' => e = .returned (.tuple #[.int .i64 0, .int .i64 2]) ∧ Below w.heap.size w w' := by
  by_cases y1 : 2000 ≤ y
  · by_cases y2 : y ≤ 2179
    · by_cases m1 : 1 ≤ m
      · by_cases m2 : m ≤ 12
        · by_cases d1 : 1 ≤ d
          · by_cases d2 : d ≤ Cal.dim y m
            · exact day_loop y m d w y1 y2 m1 m2 d1 d2 false (decide_eq_false fun hn => h ⟨y1, y2, m1, m2, d1, d2, hn⟩)
            · clear h
              obtain ⟨k, rfl⟩ : ∃ k : Nat, m = k + 1 := ⟨(m - 1).toNat, by omega⟩
              have hk : k < 12 := by omega
              have hk' : k ≤ 12 := by omega
              have hce := fun w1 : World => cell_lens y k hk w1 _ rfl
              go_enter Tryd.func13, Tryd.ntmps13
              go_wp2_with (go_at_call 32; refine (lengths_lit _ _ (by omega) (by omega)).mono ?_; rintro e w1 ⟨rfl, hb⟩)
              go_ret2
              have hz := hb.size
              exact ⟨rfl, by go_grown⟩
          · clear h
            go_enter Tryd.func13, Tryd.ntmps13
            go_wp2_with (go_at_call 32; refine (lengths_lit _ _ (by omega) (by omega)).mono ?_; rintro e w1 ⟨rfl, hb⟩)
            go_ret2
            have hz := hb.size
            exact ⟨rfl, by go_grown⟩
        · clear h
          go_enter Tryd.func13, Tryd.ntmps13
          go_wp2_with fail
          go_ret2
          exact ⟨rfl, by go_grown⟩
      · clear h
        go_enter Tryd.func13, Tryd.ntmps13
        go_wp2_with fail
        go_ret2
        exact ⟨rfl, by go_grown⟩
    · clear h
      go_enter Tryd.func13, Tryd.ntmps13
      go_wp2_with fail
      go_ret2
      exact ⟨rfl, by go_grown⟩
  · clear h
    go_enter Tryd.func13, Tryd.ntmps13
    go_wp2_with fail
    go_ret2
    exact ⟨rfl, by go_grown⟩
end Go.Proofs.YtodlkjdmhfcpkaaDoor
