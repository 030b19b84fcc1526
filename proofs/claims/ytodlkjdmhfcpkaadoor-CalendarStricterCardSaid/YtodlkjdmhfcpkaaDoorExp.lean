/-
  The contracts of Expired: the program's and the reference's; and the law by which an entry that lies in a block is read whole.
-/
import Derived.Test.YtodlkjdmhfcpkaaDoorFits
import Derived.Laws.Rows
namespace Go.Proofs.YtodlkjdmhfcpkaaDoor
open Go.RowKit

section
variable {ops : Array Oper} {rest : List Oper} {o : Oper} {a : Act} {w : World} {Q : Exit → Act → World → Prop}
theorem wpList_wanted (hw : Region.wanted o (yielded ops a.tmps) = true) (h : ∀ K : Act → World → Prop, (∀ a w, wpList Tryd.prog ops Q rest a w → K a w) → o.wp Tryd.prog a w K Q) : wpList Tryd.prog ops Q (o :: rest) a w :=
  wpList_step fun K hK => by rw [if_pos hw]; exact h K hK
/-- An entry that lies in a block, read whole by an operation that is wanted. -/
theorem load_entry (x : Operand) (ho : o.op = .load 43 x) (hw : Region.wanted o (yielded ops a.tmps) = true) (g : Nat) (hx : a.eval x = .pointer (some ⟨g, 0, none⟩)) (v : Nat → Value) (cr us ex : Int) (ar : Bool) (hg : w.heap[g]? = some (.cells (entry v cr us ex ar) 43 (0, 0)))
    (h : wpList Tryd.prog ops Q rest (a.put o.dst (.agg (entry v cr us ex ar))) w) : wpList Tryd.prog ops Q (o :: rest) a w :=
  wpList_wanted hw fun _ hK => wp_load_row 43 x ho g hx 43 _ (0, 0) _ hg Tryd.underlying43 rfl (by kernel_rfl) (hK _ _ h)
theorem load_policy (x : Operand) (ho : o.op = .load 37 x) (hw : Region.wanted o (yielded ops a.tmps) = true) (g : Nat) (hx : a.eval x = .pointer (some ⟨g, 0, none⟩)) (kp un ac : Int) (hg : w.heap[g]? = some (.cells #[.int .i64 kp, .int .i64 un, .int .i64 ac] 37 (0, 0)))
    (h : wpList Tryd.prog ops Q rest (a.put o.dst (.agg #[.int .i64 kp, .int .i64 un, .int .i64 ac])) w) : wpList Tryd.prog ops Q (o :: rest) a w :=
  wpList_wanted hw fun _ hK => wp_load_row 37 x ho g hx 37 _ (0, 0) _ hg Tryd.underlying37 rfl (by kernel_rfl) (hK _ _ h)
end
theorem heap_below {W w1 : World} (hb : Below W.heap.size W w1) {g : Nat} {o : Obj} (h : W.heap[g]? = some o) : w1.heap[g]? = some o := by
  have hlt : g < W.heap.size := by
    by_cases k : g < W.heap.size
    · exact k
    · rw [Array.getElem?_eq_none (by omega)] at h; cases h
  rw [hb.block g hlt]; exact h
theorem expired_any (v : Nat → Value) (cr us ex t : Int) (ar : Bool) (w : World) :
    Calls Tryd.prog 23 #[.agg (entry v cr us ex ar), .int .i64 t] w fun e w' => e = .returned (.bool (expB cr us ex t)) ∧ Below w.heap.size w w' := by
  have hg := heap_alloc_new w (.cells (entry v cr us ex ar) 43)
  have HG := Lib.hid hg
  clear hg
  go_enter Tryd.func23, Tryd.ntmps23
  go_wp2_with (refine load_entry _ rfl rfl w.heap.size rfl v cr us ex ar HG.out ?_)
  refine (fits_any v cr us ex t ar _).mono ?_
  rintro e w1 ⟨rfl, hb⟩
  obtain ⟨hc, hf⟩ := bcell hb
  have hz := hb.size
  have hb' := hb.mono (B' := w.heap.size) (by simp)
  clear hb
  have HB := Lib.hid hb'
  clear hb'
  go_wp2_with fail
  all_goals (go_ret; exact ⟨by simp_all [expB], ((Below.refl _ _).alloc (Nat.le_refl _) _).trans HB.out⟩)
theorem refExpired_any (v : Nat → Value) (cr us ex t : Int) (ar : Bool) (w : World) :
    Calls Tryd.prog 24 #[.agg (entry v cr us ex ar), .int .i64 t] w fun e w' => e = .returned (.bool (expB cr us ex t)) ∧ Below w.heap.size w w' := by
  have hg := heap_alloc_new w (.cells (entry v cr us ex ar) 43)
  have HG := Lib.hid hg
  clear hg
  go_enter Tryd.func24, Tryd.ntmps24
  go_wp2_with (refine load_entry _ rfl rfl w.heap.size rfl v cr us ex ar HG.out ?_)
  refine (refFits_any v cr us ex t ar _).mono ?_
  rintro e w1 ⟨rfl, hb⟩
  obtain ⟨hc, hf⟩ := bcell hb
  have hz := hb.size
  have hb' := hb.mono (B' := w.heap.size) (by simp)
  clear hb
  have HB := Lib.hid hb'
  clear hb'
  go_wp2_with fail
  all_goals (go_ret; exact ⟨by simp_all [expB], ((Below.refl _ _).alloc (Nat.le_refl _) _).trans HB.out⟩)
end Go.Proofs.YtodlkjdmhfcpkaaDoor
