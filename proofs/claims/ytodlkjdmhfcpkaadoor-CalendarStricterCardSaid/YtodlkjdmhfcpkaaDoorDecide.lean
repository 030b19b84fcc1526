/-
  The contract of Decide.
-/
import Derived.Test.YtodlkjdmhfcpkaaDoorExp
import Derived.Lib.MinMax
import Derived.RegionTactic
import Derived.BigRegion
namespace Go.Proofs.YtodlkjdmhfcpkaaDoor
open Go.RowKit

/-- The decision. -/
def decI (kp un ac cr us ex : Int) (ar : Bool) (t : Int) : Int :=
  if (isD kp && isD un && isD ac && fitB cr us ex t) = true then
    (if (expB cr us ex t && (reachB kp (t - cr) || ar && reachB ac (t - max cr us))) = true then 2 else if (!ar && reachB un (t - max cr us)) = true then 1 else 0)
  else 0
/-- A policy and an entry, each in a block of its own. -/
structure Boxed (w : World) (b : Nat) (kp un ac : Int) (v : Nat → Value) (cr us ex : Int) (ar : Bool) : Prop where
  p : w.heap[b]? = some (.cells #[.int .i64 kp, .int .i64 un, .int .i64 ac] 37 (0, 0))
  e : w.heap[b + 1]? = some (.cells (entry v cr us ex ar) 43 (0, 0))
section
variable {w : World} {b : Nat} {kp un ac : Int} {v : Nat → Value} {cr us ex : Int} {ar : Bool}
theorem Boxed.new (w : World) (kp un ac : Int) (v : Nat → Value) (cr us ex : Int) (ar : Bool) : Boxed ((w.alloc (.cells #[.int .i64 kp, .int .i64 un, .int .i64 ac] 37)).alloc (.cells (entry v cr us ex ar) 43)) w.heap.size kp un ac v cr us ex ar :=
  ⟨heap_alloc2_old w _ _, heap_alloc2_new w _ _⟩
theorem Boxed.below {w1 : World} (h : Boxed w b kp un ac v cr us ex ar) (hb : Below w.heap.size w w1) : Boxed w1 b kp un ac v cr us ex ar :=
  ⟨heap_below hb h.p, heap_below hb h.e⟩
theorem Boxed.drew (h : Boxed w b kp un ac v cr us ex ar) : Boxed w.drew b kp un ac v cr us ex ar := ⟨h.p, h.e⟩
theorem Boxed.p0 (h : Boxed w b kp un ac v cr us ex ar) : w.cell? ⟨b, 0, none⟩ = some (.int .i64 kp) := (cell_of_row _ _ 0 _ _ _ h.p).trans rfl
theorem Boxed.p1 (h : Boxed w b kp un ac v cr us ex ar) : w.cell? ⟨b, 1, none⟩ = some (.int .i64 un) := (cell_of_row _ _ 1 _ _ _ h.p).trans rfl
theorem Boxed.p2 (h : Boxed w b kp un ac v cr us ex ar) : w.cell? ⟨b, 2, none⟩ = some (.int .i64 ac) := (cell_of_row _ _ 2 _ _ _ h.p).trans rfl
theorem Boxed.c20 (h : Boxed w b kp un ac v cr us ex ar) : w.cell? ⟨b + 1, 20, none⟩ = some (.int .i64 cr) := (cell_of_row _ _ 20 _ _ _ h.e).trans rfl
theorem Boxed.c21 (h : Boxed w b kp un ac v cr us ex ar) : w.cell? ⟨b + 1, 21, none⟩ = some (.int .i64 ex) := (cell_of_row _ _ 21 _ _ _ h.e).trans rfl
theorem Boxed.c22 (h : Boxed w b kp un ac v cr us ex ar) : w.cell? ⟨b + 1, 22, none⟩ = some (.bool ar) := (cell_of_row _ _ 22 _ _ _ h.e).trans rfl
theorem Boxed.c24 (h : Boxed w b kp un ac v cr us ex ar) : w.cell? ⟨b + 1, 24, none⟩ = some (.int .i64 us) := (cell_of_row _ _ 24 _ _ _ h.e).trans rfl
end

set_option maxHeartbeats 1000000 in
theorem decide_good (kp un ac : Int) (v : Nat → Value) (cr us ex : Int) (ar : Bool) (t : Int) (w : World) (h1 : isD kp = true) (h2 : isD un = true) (h3 : isD ac = true) (h4 : fitB cr us ex t = true) :
    Calls Tryd.prog 25 #[.agg #[.int .i64 kp, .int .i64 un, .int .i64 ac], .agg (entry v cr us ex ar), .int .i64 t] w fun e w' => e = .returned (.int .i64 (decI kp un ac cr us ex ar t)) ∧ Below w.heap.size w w' := by
  obtain ⟨k0, k1⟩ := isD_true.1 h1
  have h4' := h4
  simp only [fitB, Bool.and_eq_true] at h4'
  obtain ⟨⟨⟨c, u⟩, x⟩, tt⟩ := h4'
  obtain ⟨c0, c1⟩ := isD_true.1 c
  obtain ⟨u0, u1⟩ := isD_true.1 u
  obtain ⟨t0, t1⟩ := isD_true.1 tt
  clear c u x tt
  have HDec := Lib.hid (show decI kp un ac cr us ex ar t = (if (expB cr us ex t && (reachB kp (t - cr) || ar && reachB ac (t - max cr us))) = true then 2 else if (!ar && reachB un (t - max cr us)) = true then 1 else 0) by rw [decI, if_pos (by rw [h1, h2, h3, h4]; rfl)])
  have B0 := Lib.hid (Boxed.new w kp un ac v cr us ex ar)
  go_enter Tryd.func25, Tryd.ntmps25
  go_wp2_with (first | (go_at_call 30; refine (isDay_any _ _).mono ?_; rintro e w' ⟨rfl, rfl⟩) | (refine load_entry _ rfl (by rfl) (w.heap.size + 1) rfl v cr us ex ar B0.out.e ?_))
  refine (fits_any v cr us ex t ar _).mono ?_
  rintro e w1 ⟨rfl, hb1⟩
  have B1 := Lib.hid (B0.out.below hb1)
  have N1 := Lib.hid (((((Below.refl w.heap.size w).alloc (Nat.le_refl _) (.cells #[.int .i64 kp, .int .i64 un, .int .i64 ac] 37)).alloc (by simp) (.cells (entry v cr us ex ar) 43)).trans (hb1.mono (by simp; omega))))
  clear hb1
  have e20 := B1.out.c20
  have e24 := B1.out.c24
  go_wp2_with fail
  go_region
  have B2 := Lib.hid B1.out.drew
  have N2 := Lib.hid N1.out.drew
  clear e20 e24
  go_wp2_with (refine load_entry _ rfl (by rfl) (w.heap.size + 1) rfl v cr us ex ar B2.out.e ?_)
  refine (expired_any v cr us ex t ar _).mono ?_
  rintro e w2 ⟨rfl, hb2⟩
  have B3 := Lib.hid (B2.out.below hb2)
  have N3 := Lib.hid (N2.out.trans (hb2.mono N2.out.size))
  clear hb2
  have p0 := B3.out.p0
  have p1 := B3.out.p1
  have p2 := B3.out.p2
  have e22 := B3.out.c22
  go_wp2_with (go_at_call 40; refine (reached_any _ _ _).mono ?_; rintro e w' ⟨rfl, rfl⟩)
  all_goals (go_ret; exact ⟨by rw [HDec.out]; simp [*], N3.out⟩)
theorem dec_bad {kp un ac cr us ex t : Int} {ar : Bool} (h : (isD kp && isD un && isD ac && fitB cr us ex t) = false) : decI kp un ac cr us ex ar t = 0 := by rw [decI, h]; rfl
set_option maxHeartbeats 1000000 in
theorem decide_any (kp un ac : Int) (v : Nat → Value) (cr us ex : Int) (ar : Bool) (t : Int) (w : World) :
    Calls Tryd.prog 25 #[.agg #[.int .i64 kp, .int .i64 un, .int .i64 ac], .agg (entry v cr us ex ar), .int .i64 t] w fun e w' => e = .returned (.int .i64 (decI kp un ac cr us ex ar t)) ∧ Below w.heap.size w w' := by
  have B0 := Lib.hid (Boxed.new w kp un ac v cr us ex ar)
  have N0 := Lib.hid ((((Below.refl w.heap.size w).alloc (Nat.le_refl _) (.cells #[.int .i64 kp, .int .i64 un, .int .i64 ac] 37)).alloc (by simp) (.cells (entry v cr us ex ar) 43)))
  cases h1 : isD kp with
  | false =>
    rw [dec_bad (by simp [h1])]
    go_enter Tryd.func25, Tryd.ntmps25
    go_wp2_with (go_at_call 30; refine (isDay_any _ _).mono ?_; rintro e w' ⟨rfl, rfl⟩)
    go_ret
    exact ⟨rfl, N0.out⟩
  | true =>
    cases h2 : isD un with
    | false =>
      rw [dec_bad (by simp [h2])]
      go_enter Tryd.func25, Tryd.ntmps25
      go_wp2_with (go_at_call 30; refine (isDay_any _ _).mono ?_; rintro e w' ⟨rfl, rfl⟩)
      go_ret
      exact ⟨rfl, N0.out⟩
    | true =>
      cases h3 : isD ac with
      | false =>
        rw [dec_bad (by simp [h3])]
        go_enter Tryd.func25, Tryd.ntmps25
        go_wp2_with (go_at_call 30; refine (isDay_any _ _).mono ?_; rintro e w' ⟨rfl, rfl⟩)
        go_ret
        exact ⟨rfl, N0.out⟩
      | true =>
        cases h4 : fitB cr us ex t with
        | false =>
          rw [dec_bad (by simp [h4])]
          go_enter Tryd.func25, Tryd.ntmps25
          go_wp2_with (first | (go_at_call 30; refine (isDay_any _ _).mono ?_; rintro e w' ⟨rfl, rfl⟩) | (refine load_entry _ rfl (by rfl) (w.heap.size + 1) rfl v cr us ex ar B0.out.e ?_))
          refine (fits_any v cr us ex t ar _).mono ?_
          rintro e w1 ⟨rfl, hb1⟩
          have N1 := Lib.hid (N0.out.trans (hb1.mono (by simp; omega)))
          clear hb1
          go_wp2_with fail
          go_ret
          exact ⟨rfl, N1.out⟩
        | true => exact decide_good kp un ac v cr us ex ar t w h1 h2 h3 h4
end Go.Proofs.YtodlkjdmhfcpkaaDoor
