/-
  The closures of the law CalendarStricter, and the memory that its regions read.
-/
import Derived.Test.YtodlkjdmhfcpkaaDoorWalkDecides
import Derived.Test.YtodlkjdmhfcpkaaDoorMono
import Derived.Laws.EntriesVeiled
namespace Go.Proofs.YtodlkjdmhfcpkaaDoor
open Go.RowKit

theorem dayFn_any (n : Int) (w : World) : Calls Tryd.prog 28 #[.int .i64 n] w fun e w' => e = .returned (.bool (isD n)) ∧ w = w' := by
  cases h : isD n with
  | true =>
    obtain ⟨h0, h1⟩ := isD_true.1 h
    clear h
    go_enter Tryd.func28, Tryd.ntmps28
    go_wp2
    go_ret
    exact ⟨rfl, rfl⟩
  | false =>
    rcases isD_false.1 h with h' | h'
    · clear h
      go_enter Tryd.func28, Tryd.ntmps28
      go_wp2
      go_ret
      exact ⟨rfl, rfl⟩
    · have h0 : 0 ≤ n := by omega
      have hd : decide (n ≤ 65536) = false := by simp; omega
      clear h
      go_enter Tryd.func28, Tryd.ntmps28
      go_wp2
      go_ret
      exact ⟨rfl, rfl⟩
theorem strictFn_any (a b : Int) (g : Nat) (w : World) (hc : w.cell? ⟨g, 0, none⟩ = some (.func (.func 28) #[] #[])) :
    Calls Tryd.prog 29 #[.int .i64 a, .int .i64 b, .pointer (some ⟨g, 0, none⟩)] w fun e w' => e = .returned (.bool (strictB a b)) ∧ w = w' := by
  go_enter Tryd.func29, Tryd.ntmps29
  go_wp2_with (go_at_call 28; refine (dayFn_any _ _).mono ?_; rintro e w' ⟨rfl, rfl⟩)
  all_goals (go_ret; exact ⟨by simp [strictB, *] <;> omega, rfl⟩)
/-- Two policies, an entry, and the variable that holds the function, each in a block of its own. -/
structure Boxed3 (w : World) (b g : Nat) (kp un ac kq uq aq : Int) (v : Nat → Value) (cr us ex : Int) (ar : Bool) : Prop where
  p : w.heap[b]? = some (.cells #[.int .i64 kp, .int .i64 un, .int .i64 ac] 37 (0, 0))
  q : w.heap[b + 1]? = some (.cells #[.int .i64 kq, .int .i64 uq, .int .i64 aq] 37 (0, 0))
  e : w.heap[b + 1 + 1]? = some (.cells (entry v cr us ex ar) 43 (0, 0))
  f : w.heap[g]? = some (.cells #[.func (.func 28) #[] #[]] 49 (0, 0))
section
variable {w : World} {b g : Nat} {kp un ac kq uq aq : Int} {v : Nat → Value} {cr us ex : Int} {ar : Bool}
theorem Boxed3.below {w1 : World} (h : Boxed3 w b g kp un ac kq uq aq v cr us ex ar) (hb : Below w.heap.size w w1) : Boxed3 w1 b g kp un ac kq uq aq v cr us ex ar :=
  ⟨heap_below hb h.p, heap_below hb h.q, heap_below hb h.e, heap_below hb h.f⟩
theorem Boxed3.drew (h : Boxed3 w b g kp un ac kq uq aq v cr us ex ar) : Boxed3 w.drew b g kp un ac kq uq aq v cr us ex ar := ⟨h.p, h.q, h.e, h.f⟩
theorem Boxed3.p0 (h : Boxed3 w b g kp un ac kq uq aq v cr us ex ar) : w.cell? ⟨b, 0, none⟩ = some (.int .i64 kp) := (cell_of_row _ _ 0 _ _ _ h.p).trans rfl
theorem Boxed3.p1 (h : Boxed3 w b g kp un ac kq uq aq v cr us ex ar) : w.cell? ⟨b, 1, none⟩ = some (.int .i64 un) := (cell_of_row _ _ 1 _ _ _ h.p).trans rfl
theorem Boxed3.p2 (h : Boxed3 w b g kp un ac kq uq aq v cr us ex ar) : w.cell? ⟨b, 2, none⟩ = some (.int .i64 ac) := (cell_of_row _ _ 2 _ _ _ h.p).trans rfl
theorem Boxed3.q0 (h : Boxed3 w b g kp un ac kq uq aq v cr us ex ar) : w.cell? ⟨b + 1, 0, none⟩ = some (.int .i64 kq) := (cell_of_row _ _ 0 _ _ _ h.q).trans rfl
theorem Boxed3.q1 (h : Boxed3 w b g kp un ac kq uq aq v cr us ex ar) : w.cell? ⟨b + 1, 1, none⟩ = some (.int .i64 uq) := (cell_of_row _ _ 1 _ _ _ h.q).trans rfl
theorem Boxed3.q2 (h : Boxed3 w b g kp un ac kq uq aq v cr us ex ar) : w.cell? ⟨b + 1, 2, none⟩ = some (.int .i64 aq) := (cell_of_row _ _ 2 _ _ _ h.q).trans rfl
theorem Boxed3.fn (h : Boxed3 w b g kp un ac kq uq aq v cr us ex ar) : w.cell? ⟨g, 0, none⟩ = some (.func (.func 28) #[] #[]) := (cell_of_row _ _ 0 _ _ _ h.f).trans rfl
end
/-- The three arguments, as they are boxed when the call begins. -/
theorem boxed_new (w : World) (kp un ac kq uq aq : Int) (v : Nat → Value) (cr us ex : Int) (ar : Bool) (w1 : World)
    (hb : Below (((w.alloc (.cells #[.int .i64 kp, .int .i64 un, .int .i64 ac] 37)).alloc (.cells #[.int .i64 kq, .int .i64 uq, .int .i64 aq] 37)).alloc (.cells (entry v cr us ex ar) 43)).heap.size (((w.alloc (.cells #[.int .i64 kp, .int .i64 un, .int .i64 ac] 37)).alloc (.cells #[.int .i64 kq, .int .i64 uq, .int .i64 aq] 37)).alloc (.cells (entry v cr us ex ar) 43)) w1) :
    Boxed3 (w1.alloc (.cells #[.func (.func 28) #[] #[]] 49)) w.heap.size w1.heap.size kp un ac kq uq aq v cr us ex ar := by
  have hz := hb.size
  simp at hz
  refine ⟨?_, ?_, ?_, heap_alloc_new w1 _⟩
  · rw [Below.heap_alloc _ _ _ (by omega)]
    refine heap_below hb ?_
    rw [Below.heap_alloc _ _ _ (by simp; omega), Below.heap_alloc _ _ _ (by simp)]; exact heap_alloc_new w _
  · rw [Below.heap_alloc _ _ _ (by omega)]
    refine heap_below hb ?_
    rw [Below.heap_alloc _ _ _ (by simp)]; exact heap_alloc2_new w _ _
  · rw [Below.heap_alloc _ _ _ (by omega)]
    refine heap_below hb ?_
    have h := heap_alloc_new ((w.alloc (.cells #[.int .i64 kp, .int .i64 un, .int .i64 ac] 37)).alloc (.cells #[.int .i64 kq, .int .i64 uq, .int .i64 aq] 37)) (.cells (entry v cr us ex ar) 43)
    have e : ((w.alloc (.cells #[.int .i64 kp, .int .i64 un, .int .i64 ac] 37)).alloc (.cells #[.int .i64 kq, .int .i64 uq, .int .i64 aq] 37)).heap.size = w.heap.size + 1 + 1 := by simp
    rw [e] at h; exact h
end Go.Proofs.YtodlkjdmhfcpkaaDoor
