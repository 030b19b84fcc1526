/-
  The contract of the reference's Decide: the same decision.
-/
import Derived.Test.YtodlkjdmhfcpkaaDoorDecide
namespace Go.Proofs.YtodlkjdmhfcpkaaDoor
open Go.RowKit

set_option maxHeartbeats 1000000 in
theorem refDecide_good (kp un ac : Int) (v : Nat → Value) (cr us ex : Int) (ar : Bool) (t : Int) (w : World) (h1 : isD kp = true) (h2 : isD un = true) (h3 : isD ac = true) (h4 : fitB cr us ex t = true) :
    Calls Tryd.prog 26 #[.agg #[.int .i64 kp, .int .i64 un, .int .i64 ac], .agg (entry v cr us ex ar), .int .i64 t] w fun e w' => e = .returned (.int .i64 (decI kp un ac cr us ex ar t)) ∧ Below w.heap.size w w' := by
  have h4' := h4
  simp only [fitB, Bool.and_eq_true] at h4'
  obtain ⟨⟨⟨c, u⟩, x⟩, tt⟩ := h4'
  obtain ⟨c0, c1⟩ := isD_true.1 c
  obtain ⟨u0, u1⟩ := isD_true.1 u
  obtain ⟨t0, t1⟩ := isD_true.1 tt
  clear c u x tt
  have HDec := Lib.hid (show decI kp un ac cr us ex ar t = (if (expB cr us ex t && (reachB kp (t - cr) || ar && reachB ac (t - max cr us))) = true then 2 else if (!ar && reachB un (t - max cr us)) = true then 1 else 0) by rw [decI, if_pos (by rw [h1, h2, h3, h4]; rfl)])
  have B0 := Lib.hid (Boxed.new w kp un ac v cr us ex ar)
  go_enter Tryd.func26, Tryd.ntmps26
  go_wp2_with (refine load_entry _ rfl (by rfl) (w.heap.size + 1) rfl v cr us ex ar B0.out.e ?_)
  refine (refFits_any v cr us ex t ar _).mono ?_
  rintro e w1 ⟨rfl, hb1⟩
  have B1 := Lib.hid (B0.out.below hb1)
  have N1 := Lib.hid (((((Below.refl w.heap.size w).alloc (Nat.le_refl _) (.cells #[.int .i64 kp, .int .i64 un, .int .i64 ac] 37)).alloc (by simp) (.cells (entry v cr us ex ar) 43)).trans (hb1.mono (by simp; omega))))
  clear hb1
  have e20 := B1.out.c20
  have e24 := B1.out.c24
  have p0 := B1.out.p0
  have p1 := B1.out.p1
  have p2 := B1.out.p2
  go_wp2_with (first | (go_at_call 33; refine (refIsDay_any _ _).mono ?_; rintro e w' ⟨rfl, rfl⟩) | (refine load_entry _ rfl (by rfl) (w.heap.size + 1) rfl v cr us ex ar B1.out.e ?_))
  refine (refExpired_any v cr us ex t ar _).mono ?_
  rintro e w2 ⟨rfl, hb2⟩
  have B3 := Lib.hid (B1.out.below hb2)
  have N3 := Lib.hid (N1.out.trans (hb2.mono N1.out.size))
  clear hb2 e20 e24 p0 p1 p2
  have p0 := B3.out.p0
  have p1 := B3.out.p1
  have p2 := B3.out.p2
  have e22 := B3.out.c22
  have e20 := B3.out.c20
  go_wp2_with (go_at_call 41; refine (refReached_any _ _ _).mono ?_; rintro e w' ⟨rfl, rfl⟩)
  all_goals (go_ret; exact ⟨by rw [HDec.out]; simp [*], N3.out⟩)
set_option maxHeartbeats 1000000 in
theorem refDecide_any (kp un ac : Int) (v : Nat → Value) (cr us ex : Int) (ar : Bool) (t : Int) (w : World) :
    Calls Tryd.prog 26 #[.agg #[.int .i64 kp, .int .i64 un, .int .i64 ac], .agg (entry v cr us ex ar), .int .i64 t] w fun e w' => e = .returned (.int .i64 (decI kp un ac cr us ex ar t)) ∧ Below w.heap.size w w' := by
  by_cases h : (isD kp && isD un && isD ac && fitB cr us ex t) = true
  · simp only [Bool.and_eq_true] at h
    exact refDecide_good kp un ac v cr us ex ar t w h.1.1.1 h.1.1.2 h.1.2 h.2
  · have hbad := eq_false_of_ne_true h
    rw [dec_bad hbad]
    have B0 := Lib.hid (Boxed.new w kp un ac v cr us ex ar)
    have HB := Lib.hid hbad
    clear hbad h
    go_enter Tryd.func26, Tryd.ntmps26
    go_wp2_with (refine load_entry _ rfl (by rfl) (w.heap.size + 1) rfl v cr us ex ar B0.out.e ?_)
    refine (refFits_any v cr us ex t ar _).mono ?_
    rintro e w1 ⟨rfl, hb1⟩
    have B1 := Lib.hid (B0.out.below hb1)
    have N1 := Lib.hid (((((Below.refl w.heap.size w).alloc (Nat.le_refl _) (.cells #[.int .i64 kp, .int .i64 un, .int .i64 ac] 37)).alloc (by simp) (.cells (entry v cr us ex ar) 43)).trans (hb1.mono (by simp; omega))))
    clear hb1
    have p0 := B1.out.p0
    have p1 := B1.out.p1
    have p2 := B1.out.p2
    cases h4 : fitB cr us ex t with
    | false =>
      clear HB
      go_wp2_with (go_at_call 33; refine (refIsDay_any _ _).mono ?_; rintro e w' ⟨rfl, rfl⟩)
      go_ret
      exact ⟨rfl, N1.out⟩
    | true =>
      cases h1 : isD kp with
      | false =>
        clear HB
        go_wp2_with (go_at_call 33; refine (refIsDay_any _ _).mono ?_; rintro e w' ⟨rfl, rfl⟩)
        go_ret
        exact ⟨rfl, N1.out⟩
      | true =>
        cases h2 : isD un with
        | false =>
          clear HB
          go_wp2_with (go_at_call 33; refine (refIsDay_any _ _).mono ?_; rintro e w' ⟨rfl, rfl⟩)
          go_ret
          exact ⟨rfl, N1.out⟩
        | true =>
          cases h3 : isD ac with
          | false =>
            clear HB
            go_wp2_with (go_at_call 33; refine (refIsDay_any _ _).mono ?_; rintro e w' ⟨rfl, rfl⟩)
            go_ret
            exact ⟨rfl, N1.out⟩
          | true => exact absurd HB.out (by simp [h1, h2, h3, h4])
end Go.Proofs.YtodlkjdmhfcpkaaDoor
