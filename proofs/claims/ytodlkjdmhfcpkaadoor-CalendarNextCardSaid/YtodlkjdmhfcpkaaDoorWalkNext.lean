/-
  The walk of the law CalendarNext: it returns true for every policy, entry and number.
-/
import Derived.Test.YtodlkjdmhfcpkaaDoorAwake
import Derived.Test.YtodlkjdmhfcpkaaDoorMono
namespace Go.Proofs.YtodlkjdmhfcpkaaDoor
open Go.RowKit

set_option maxRecDepth 100000 in
set_option maxHeartbeats 2000000 in
theorem next_walk (kp un ac : Int) (v : Nat → Value) (cr us ex : Int) (ar : Bool) (t : Int) (w : World) (ht : Tab w) :
    Calls Tryd.prog 8 #[.agg #[.int .i64 kp, .int .i64 un, .int .i64 ac], .agg (entry v cr us ex ar), .int .i64 t] w fun e w' => e = .returned (.bool true) ∧ Below w.heap.size w w' := by
  have HT := Lib.hid ht
  clear ht
  have B0 := Lib.hid (Boxed.new w kp un ac v cr us ex ar)
  have N0 := Lib.hid ((((Below.refl w.heap.size w).alloc (Nat.le_refl _) (.cells #[.int .i64 kp, .int .i64 un, .int .i64 ac] 37)).alloc (by simp) (.cells (entry v cr us ex ar) 43)))
  go_enter Tryd.func8, Tryd.ntmps8
  go_wp2_with fail
  refine (awake_true _ (HT.out.below N0.out)).mono ?_
  rintro e w1 ⟨rfl, hb1⟩
  have B1 := Lib.hid (B0.out.below hb1)
  have N1 := Lib.hid (N0.out.trans (hb1.mono (by simp; omega)))
  clear hb1
  go_wp2_with (first | (refine load_entry _ rfl (by rfl) (w.heap.size + 1) rfl v cr us ex ar B1.out.e ?_) | (refine load_policy _ rfl (by rfl) w.heap.size rfl kp un ac B1.out.p ?_))
  refine (decide_any kp un ac v cr us ex ar t _).mono ?_
  rintro e w2 ⟨rfl, hb2⟩
  have B2 := Lib.hid (B1.out.below hb2)
  have N2 := Lib.hid (N1.out.trans (hb2.mono N1.out.size))
  clear hb2
  go_wp2_with (first | (refine load_entry _ rfl (by rfl) (w.heap.size + 1) rfl v cr us ex ar B2.out.e ?_) | (refine load_policy _ rfl (by rfl) w.heap.size rfl kp un ac B2.out.p ?_))
  refine (next_any kp un ac v cr us ex ar t _).mono ?_
  rintro e w3 ⟨hx, hb3⟩
  have B3 := Lib.hid (B2.out.below hb3)
  have N3 := Lib.hid (N2.out.trans (hb3.mono N2.out.size))
  clear hb3
  rcases hx with ⟨hd, ⟨d, h1, h2, h3, h4, rfl⟩ | ⟨h1, rfl⟩⟩ | ⟨hd, rfl⟩
  · obtain ⟨t0, t1⟩ := isD_true.1 hd
    have hmono := dec_mono kp un ac cr us ex ar (show t ≤ d by omega) hd (isD_true.2 ⟨by omega, h2⟩)
    have hgt : decI kp un ac cr us ex ar t < decI kp un ac cr us ex ar d := by omega
    have HALL := Lib.hid h3
    clear h3 h4 hmono hd
    have HG := Lib.hid hgt
    clear hgt
    go_wp2_with fail
    go_loopw [10] (fun s wr => ∃ k : Int, t ≤ k ∧ k ≤ d ∧ s = .int .i64 k ∧ Below w3.heap.size w3 wr) (fun s _ => (d - intOf s).toNat)
    case atStart => exact ⟨_, by omega, by omega, rfl, Below.refl _ _⟩
    case round =>
      obtain ⟨k, hk0, hk1, rfl, hb⟩ := hrel
      have B4 := Lib.hid (B3.out.below hb)
      have N4 := Lib.hid hb
      clear hb
      by_cases hlt : k < d
      · have hsame : decI kp un ac cr us ex ar k = decI kp un ac cr us ex ar t := by
          by_cases hkt : k = t
          · rw [hkt]
          · exact HALL.out k (by omega) hlt
        have HS := Lib.hid hsame
        clear hsame
        go_wp2_with (first | (refine load_entry _ rfl (by rfl) (w.heap.size + 1) rfl v cr us ex ar B4.out.e ?_) | (refine load_policy _ rfl (by rfl) w.heap.size rfl kp un ac B4.out.p ?_))
        refine (decide_any kp un ac v cr us ex ar k _).mono ?_
        rw [HS.out]
        rintro e w5 ⟨rfl, hb5⟩
        have N5 := Lib.hid (N4.out.trans (hb5.mono N4.out.size))
        clear hb5
        go_wp2_with fail
        go_roundw
        case rel => exact ⟨k + 1, by omega, by omega, rfl, N5.out⟩
        case measure => simp [intOf]; omega
      · have hdt : t < d := by omega
        go_wp2_with (first | (refine load_entry _ rfl (by rfl) (w.heap.size + 1) rfl v cr us ex ar B4.out.e ?_) | (refine load_policy _ rfl (by rfl) w.heap.size rfl kp un ac B4.out.p ?_))
        refine (decide_any kp un ac v cr us ex ar d _).mono ?_
        rintro e w5 ⟨rfl, hb5⟩
        have N5 := Lib.hid (N3.out.trans ((N4.out.trans (hb5.mono N4.out.size)).mono N3.out.size))
        clear hb5
        have hq : decide (decI kp un ac cr us ex ar t < decI kp un ac cr us ex ar d) = true := by simpa using HG.out
        go_wp2_with fail
        go_ret
        exact ⟨by rw [← hq]; rfl, N5.out⟩
  · obtain ⟨t0, t1⟩ := isD_true.1 hd
    have hsame : decI kp un ac cr us ex ar 65536 = decI kp un ac cr us ex ar t := by
      by_cases hkt : t = 65536
      · rw [hkt]
      · exact h1 65536 (by omega) (by omega)
    have HS := Lib.hid hsame
    clear hsame h1 hd
    have q1 : decide (t < 0) = false := by simp; omega
    have q2 : decide (65536 < t) = false := by simp; omega
    go_wp2_with (first | (refine load_entry _ rfl (by rfl) (w.heap.size + 1) rfl v cr us ex ar B3.out.e ?_) | (refine load_policy _ rfl (by rfl) w.heap.size rfl kp un ac B3.out.p ?_))
    refine (decide_any kp un ac v cr us ex ar 65536 _).mono ?_
    rw [HS.out]
    rintro e w5 ⟨rfl, hb5⟩
    have N5 := Lib.hid (N3.out.trans (hb5.mono N3.out.size))
    clear hb5
    go_wp2_with fail
    go_ret
    exact ⟨rfl, N5.out⟩
  · rcases isD_false.1 hd with h | h
    · clear hd
      go_wp2_with fail
      go_ret
      exact ⟨rfl, N3.out⟩
    · have h' : 0 ≤ t := by omega
      clear hd
      go_wp2_with fail
      go_ret
      exact ⟨rfl, N3.out⟩
end Go.Proofs.YtodlkjdmhfcpkaaDoor
