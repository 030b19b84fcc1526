/-
  The walk of the law CalendarStricter where it returns early.
-/
import Derived.Test.YtodlkjdmhfcpkaaDoorStrictA
namespace Go.Proofs.YtodlkjdmhfcpkaaDoor
open Go.RowKit

set_option maxHeartbeats 2000000 in
theorem strict_e1 (kp un ac kq uq aq : Int) (v : Nat → Value) (cr us ex : Int) (ar : Bool) (t u : Int) (w : World) (ht : Tab w) (h1 : isD t = false) :
    Calls Tryd.prog 9 #[.agg #[.int .i64 kp, .int .i64 un, .int .i64 ac], .agg #[.int .i64 kq, .int .i64 uq, .int .i64 aq], .agg (entry v cr us ex ar), .int .i64 t, .int .i64 u] w fun e w' => e = .returned (.bool true) ∧ Below w.heap.size w w' := by
  have HT := Lib.hid ht
  clear ht
  have N0 := Lib.hid (((((Below.refl w.heap.size w).alloc (Nat.le_refl _) (.cells #[.int .i64 kp, .int .i64 un, .int .i64 ac] 37)).alloc (by simp) (.cells #[.int .i64 kq, .int .i64 uq, .int .i64 aq] 37)).alloc (by simp; omega) (.cells (entry v cr us ex ar) 43)))
  go_enter Tryd.func9, Tryd.ntmps9
  go_wp2_with fail
  refine (awake_true _ (HT.out.below N0.out)).mono ?_
  rintro e w1 ⟨rfl, hb1⟩
  have B1 := Lib.hid (boxed_new w kp un ac kq uq aq v cr us ex ar w1 hb1)
  have N1' := N0.out.trans (hb1.mono (by simp; omega))
  have N1 := Lib.hid (N1'.alloc N1'.size (.cells #[.func (.func 28) #[] #[]] 49))
  clear hb1 N1'
  go_wp2_with (go_at_call 28; refine (dayFn_any _ _).mono ?_; rintro e w' ⟨rfl, rfl⟩)
  go_ret
  exact ⟨rfl, N1.out⟩
set_option maxHeartbeats 2000000 in
theorem strict_e2 (kp un ac kq uq aq : Int) (v : Nat → Value) (cr us ex : Int) (ar : Bool) (t u : Int) (w : World) (ht : Tab w) (h1 : isD t = true) (h2 : isD u = false) :
    Calls Tryd.prog 9 #[.agg #[.int .i64 kp, .int .i64 un, .int .i64 ac], .agg #[.int .i64 kq, .int .i64 uq, .int .i64 aq], .agg (entry v cr us ex ar), .int .i64 t, .int .i64 u] w fun e w' => e = .returned (.bool true) ∧ Below w.heap.size w w' := by
  have HT := Lib.hid ht
  clear ht
  have N0 := Lib.hid (((((Below.refl w.heap.size w).alloc (Nat.le_refl _) (.cells #[.int .i64 kp, .int .i64 un, .int .i64 ac] 37)).alloc (by simp) (.cells #[.int .i64 kq, .int .i64 uq, .int .i64 aq] 37)).alloc (by simp; omega) (.cells (entry v cr us ex ar) 43)))
  go_enter Tryd.func9, Tryd.ntmps9
  go_wp2_with fail
  refine (awake_true _ (HT.out.below N0.out)).mono ?_
  rintro e w1 ⟨rfl, hb1⟩
  have B1 := Lib.hid (boxed_new w kp un ac kq uq aq v cr us ex ar w1 hb1)
  have N1' := N0.out.trans (hb1.mono (by simp; omega))
  have N1 := Lib.hid (N1'.alloc N1'.size (.cells #[.func (.func 28) #[] #[]] 49))
  clear hb1 N1'
  go_wp2_with (go_at_call 28; refine (dayFn_any _ _).mono ?_; rintro e w' ⟨rfl, rfl⟩)
  go_ret
  exact ⟨rfl, N1.out⟩
set_option maxHeartbeats 2000000 in
theorem strict_e3 (kp un ac kq uq aq : Int) (v : Nat → Value) (cr us ex : Int) (ar : Bool) (t u : Int) (w : World) (ht : Tab w) (h1 : isD t = true) (h2 : isD u = true) (h3 : u < t) :
    Calls Tryd.prog 9 #[.agg #[.int .i64 kp, .int .i64 un, .int .i64 ac], .agg #[.int .i64 kq, .int .i64 uq, .int .i64 aq], .agg (entry v cr us ex ar), .int .i64 t, .int .i64 u] w fun e w' => e = .returned (.bool true) ∧ Below w.heap.size w w' := by
  have HT := Lib.hid ht
  clear ht
  have N0 := Lib.hid (((((Below.refl w.heap.size w).alloc (Nat.le_refl _) (.cells #[.int .i64 kp, .int .i64 un, .int .i64 ac] 37)).alloc (by simp) (.cells #[.int .i64 kq, .int .i64 uq, .int .i64 aq] 37)).alloc (by simp; omega) (.cells (entry v cr us ex ar) 43)))
  go_enter Tryd.func9, Tryd.ntmps9
  go_wp2_with fail
  refine (awake_true _ (HT.out.below N0.out)).mono ?_
  rintro e w1 ⟨rfl, hb1⟩
  have B1 := Lib.hid (boxed_new w kp un ac kq uq aq v cr us ex ar w1 hb1)
  have N1' := N0.out.trans (hb1.mono (by simp; omega))
  have N1 := Lib.hid (N1'.alloc N1'.size (.cells #[.func (.func 28) #[] #[]] 49))
  clear hb1 N1'
  go_wp2_with (go_at_call 28; refine (dayFn_any _ _).mono ?_; rintro e w' ⟨rfl, rfl⟩)
  go_ret
  exact ⟨rfl, N1.out⟩
set_option maxHeartbeats 2000000 in
theorem strict_e4 (kp un ac kq uq aq : Int) (v : Nat → Value) (cr us ex : Int) (ar : Bool) (t u : Int) (w : World) (ht : Tab w) (h1 : isD t = true) (h2 : isD u = true) (h3 : t ≤ u) (h4 : isD kp = false) :
    Calls Tryd.prog 9 #[.agg #[.int .i64 kp, .int .i64 un, .int .i64 ac], .agg #[.int .i64 kq, .int .i64 uq, .int .i64 aq], .agg (entry v cr us ex ar), .int .i64 t, .int .i64 u] w fun e w' => e = .returned (.bool true) ∧ Below w.heap.size w w' := by
  have HT := Lib.hid ht
  clear ht
  have N0 := Lib.hid (((((Below.refl w.heap.size w).alloc (Nat.le_refl _) (.cells #[.int .i64 kp, .int .i64 un, .int .i64 ac] 37)).alloc (by simp) (.cells #[.int .i64 kq, .int .i64 uq, .int .i64 aq] 37)).alloc (by simp; omega) (.cells (entry v cr us ex ar) 43)))
  go_enter Tryd.func9, Tryd.ntmps9
  go_wp2_with fail
  refine (awake_true _ (HT.out.below N0.out)).mono ?_
  rintro e w1 ⟨rfl, hb1⟩
  have B1 := Lib.hid (boxed_new w kp un ac kq uq aq v cr us ex ar w1 hb1)
  have N1' := N0.out.trans (hb1.mono (by simp; omega))
  have N1 := Lib.hid (N1'.alloc N1'.size (.cells #[.func (.func 28) #[] #[]] 49))
  clear hb1 N1'
  have p0 := B1.out.p0
  go_wp2_with (go_at_call 28; refine (dayFn_any _ _).mono ?_; rintro e w' ⟨rfl, rfl⟩)
  go_ret
  exact ⟨rfl, N1.out⟩
set_option maxHeartbeats 2000000 in
theorem strict_e5 (kp un ac kq uq aq : Int) (v : Nat → Value) (cr us ex : Int) (ar : Bool) (t u : Int) (w : World) (ht : Tab w) (h1 : isD t = true) (h2 : isD u = true) (h3 : t ≤ u) (h4 : isD kp = true) (h5 : isD un = false) :
    Calls Tryd.prog 9 #[.agg #[.int .i64 kp, .int .i64 un, .int .i64 ac], .agg #[.int .i64 kq, .int .i64 uq, .int .i64 aq], .agg (entry v cr us ex ar), .int .i64 t, .int .i64 u] w fun e w' => e = .returned (.bool true) ∧ Below w.heap.size w w' := by
  have HT := Lib.hid ht
  clear ht
  have N0 := Lib.hid (((((Below.refl w.heap.size w).alloc (Nat.le_refl _) (.cells #[.int .i64 kp, .int .i64 un, .int .i64 ac] 37)).alloc (by simp) (.cells #[.int .i64 kq, .int .i64 uq, .int .i64 aq] 37)).alloc (by simp; omega) (.cells (entry v cr us ex ar) 43)))
  go_enter Tryd.func9, Tryd.ntmps9
  go_wp2_with fail
  refine (awake_true _ (HT.out.below N0.out)).mono ?_
  rintro e w1 ⟨rfl, hb1⟩
  have B1 := Lib.hid (boxed_new w kp un ac kq uq aq v cr us ex ar w1 hb1)
  have N1' := N0.out.trans (hb1.mono (by simp; omega))
  have N1 := Lib.hid (N1'.alloc N1'.size (.cells #[.func (.func 28) #[] #[]] 49))
  clear hb1 N1'
  have p0 := B1.out.p0
  have p1 := B1.out.p1
  go_wp2_with (go_at_call 28; refine (dayFn_any _ _).mono ?_; rintro e w' ⟨rfl, rfl⟩)
  go_ret
  exact ⟨rfl, N1.out⟩
set_option maxHeartbeats 2000000 in
theorem strict_e6 (kp un ac kq uq aq : Int) (v : Nat → Value) (cr us ex : Int) (ar : Bool) (t u : Int) (w : World) (ht : Tab w) (h1 : isD t = true) (h2 : isD u = true) (h3 : t ≤ u) (h4 : isD kp = true) (h5 : isD un = true) (h6 : isD ac = false) :
    Calls Tryd.prog 9 #[.agg #[.int .i64 kp, .int .i64 un, .int .i64 ac], .agg #[.int .i64 kq, .int .i64 uq, .int .i64 aq], .agg (entry v cr us ex ar), .int .i64 t, .int .i64 u] w fun e w' => e = .returned (.bool true) ∧ Below w.heap.size w w' := by
  have HT := Lib.hid ht
  clear ht
  have N0 := Lib.hid (((((Below.refl w.heap.size w).alloc (Nat.le_refl _) (.cells #[.int .i64 kp, .int .i64 un, .int .i64 ac] 37)).alloc (by simp) (.cells #[.int .i64 kq, .int .i64 uq, .int .i64 aq] 37)).alloc (by simp; omega) (.cells (entry v cr us ex ar) 43)))
  go_enter Tryd.func9, Tryd.ntmps9
  go_wp2_with fail
  refine (awake_true _ (HT.out.below N0.out)).mono ?_
  rintro e w1 ⟨rfl, hb1⟩
  have B1 := Lib.hid (boxed_new w kp un ac kq uq aq v cr us ex ar w1 hb1)
  have N1' := N0.out.trans (hb1.mono (by simp; omega))
  have N1 := Lib.hid (N1'.alloc N1'.size (.cells #[.func (.func 28) #[] #[]] 49))
  clear hb1 N1'
  have p0 := B1.out.p0
  have p1 := B1.out.p1
  have p2 := B1.out.p2
  go_wp2_with (go_at_call 28; refine (dayFn_any _ _).mono ?_; rintro e w' ⟨rfl, rfl⟩)
  go_ret
  exact ⟨rfl, N1.out⟩
end Go.Proofs.YtodlkjdmhfcpkaaDoor
