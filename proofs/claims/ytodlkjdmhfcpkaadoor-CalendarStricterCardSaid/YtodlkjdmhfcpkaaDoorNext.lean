/-
  The contracts of the closure of Next, of search and of Next.
-/
import Derived.Test.YtodlkjdmhfcpkaaDoorDecide
import Derived.Deep.RegionHeld3
namespace Go.Proofs.YtodlkjdmhfcpkaaDoor
open Go.RowKit

theorem loadAt_entry (w : World) (g : Nat) (v : Nat → Value) (cr us ex : Int) (ar : Bool) (hg : w.heap[g]? = some (.cells (entry v cr us ex ar) 43 (0, 0))) :
    (Instr.loadAt 43 (.pointer (some ⟨g, 0, none⟩))).run Tryd.prog w = .ok (.agg (entry v cr us ex ar)) w := by
  simp only [Instr.loadAt, Instr.sureAddr, Sem.run_bind, Sem.run_pure, Result.andThen_ok, run_loadVar_row w g 43 43 _ (0, 0) _ hg Tryd.underlying43 rfl (by kernel_rfl)]
theorem loadAt_policy (w : World) (g : Nat) (kp un ac : Int) (hg : w.heap[g]? = some (.cells #[.int .i64 kp, .int .i64 un, .int .i64 ac] 37 (0, 0))) :
    (Instr.loadAt 37 (.pointer (some ⟨g, 0, none⟩))).run Tryd.prog w = .ok (.agg #[.int .i64 kp, .int .i64 un, .int .i64 ac]) w := by
  simp only [Instr.loadAt, Instr.sureAddr, Sem.run_bind, Sem.run_pure, Result.andThen_ok, run_loadVar_row w g 37 37 _ (0, 0) _ hg Tryd.underlying37 rfl (by kernel_rfl)]
section
variable {ops : Array Oper} {S : World → Prop} {o : Oper} {a : Act}
theorem yields_entry (x : Operand) (ho : o.op = .load 43 x) (hg : o.guard = none) (g : Nat) (hx : a.eval x = .pointer (some ⟨g, 0, none⟩)) {v : Nat → Value} {cr us ex : Int} {ar : Bool} (hS : ∀ w, S w → w.heap[g]? = some (.cells (entry v cr us ex ar) 43 (0, 0))) :
    YieldsIf Tryd.prog ops S o (.agg (entry v cr us ex ar)) a :=
  Or.inl ⟨by simp [Region.wanted, hg], fun w h => by
    unfold execOp
    simp only [ho, hx, Sem.run_bind, loadAt_entry w g v cr us ex ar (hS w h), Result.andThen_ok, Sem.run_pure]⟩
theorem yields_policy (x : Operand) (ho : o.op = .load 37 x) (hg : o.guard = none) (g : Nat) (hx : a.eval x = .pointer (some ⟨g, 0, none⟩)) {kp un ac : Int} (hS : ∀ w, S w → w.heap[g]? = some (.cells #[.int .i64 kp, .int .i64 un, .int .i64 ac] 37 (0, 0))) :
    YieldsIf Tryd.prog ops S o (.agg #[.int .i64 kp, .int .i64 un, .int .i64 ac]) a :=
  Or.inl ⟨by simp [Region.wanted, hg], fun w h => by
    unfold execOp
    simp only [ho, hx, Sem.run_bind, loadAt_policy w g kp un ac (hS w h), Result.andThen_ok, Sem.run_pure]⟩
end
/-- The closure of Next: the decision of a day is another one. -/
theorem other_any (b g : Nat) (kp un ac : Int) (v : Nat → Value) (cr us ex : Int) (ar : Bool) (now t : Int) (w : World) (hB : Boxed w b kp un ac v cr us ex ar) (hn : w.cell? ⟨g, 0, none⟩ = some (.int .i64 now)) :
    Calls Tryd.prog 43 #[.int .i64 t, .pointer (some ⟨b, 0, none⟩), .pointer (some ⟨b + 1, 0, none⟩), .pointer (some ⟨g, 0, none⟩)] w fun e w' => e = .returned (.bool (decI kp un ac cr us ex ar t != now)) ∧ Below w.heap.size w w' := by
  have HB := Lib.hid hB
  have HN := Lib.hid hn
  clear hB hn
  go_enter Tryd.func43, Tryd.ntmps43
  go_wp2_with fail
  refine wp_region_held_drew (S := fun w' => Boxed w' b kp un ac v cr us ex ar ∧ w'.cell? ⟨g, 0, none⟩ = some (.int .i64 now)) (by kernel_rfl) ⟨HB.out.drew, HN.out⟩ (fun hS => ?_)
  refine wpAnyH_take (i := 0) rfl (by kernel_rfl) (by kernel_rfl) (by kernel_rfl) (fun _ _ _ h => h) (yields_policy _ rfl rfl b rfl fun w h => h.1.p) hS ?_
  refine wpAnyH_take (i := 1) rfl (by kernel_rfl) (by kernel_rfl) (by kernel_rfl) (fun _ _ _ h => h) (yields_entry _ rfl rfl (b + 1) rfl fun w h => h.1.e) hS ?_
  refine wpAnyH_take (i := 2) (v := .int .i64 t) rfl (by kernel_rfl) (by kernel_rfl) (by kernel_rfl) (fun _ _ _ h => h) (Or.inl ⟨rfl, fun _ _ => by go_simp⟩) hS ?_
  refine wpAnyH_take (i := 4) (v := .int .i64 now) rfl (by kernel_rfl) (by kernel_rfl) (by kernel_rfl) (fun _ _ _ h => h) (Or.inl ⟨rfl, fun w h => by have hq := h.2; go_simp⟩) hS ?_
  refine wpAnyH_ready (rs := [3]) (by kernel_rfl) (by simp) (AllReadyH.cons rfl (fun K hK => ?_) AllReadyH.nil)
  go_simp
  refine (decide_any kp un ac v cr us ex ar t _).mono ?_
  rintro e w1 ⟨rfl, hb⟩
  have hlt := World.block_lt_of_cell? _ _ HN.out
  refine hK.out _ _ ⟨hS.1.below hb, (hb.cell (p := ⟨g, 0, none⟩) hlt).trans HN.out⟩ (fun hS1 => ?_)
  refine wpAnyH_take (i := 5) (v := .bool (decI kp un ac cr us ex ar t != now)) rfl (by kernel_rfl) (by kernel_rfl) (by kernel_rfl) (fun _ _ _ h => h) (Or.inl ⟨rfl, fun _ _ => by go_simp⟩) hS1 ?_
  refine wpAnyH_take (i := 6) (v := .bool (decI kp un ac cr us ex ar t != now)) rfl (by kernel_rfl) (by kernel_rfl) (by kernel_rfl) (fun _ _ _ h => h) (Or.inl ⟨rfl, fun _ _ => by go_simp⟩) hS1 ?_
  refine wpAnyH_done (by kernel_rfl) ?_ _
  have hbb : Below w.heap.size w w1 := ((Below.refl _ _).drew).trans hb
  clear hK hS hS1
  go_wp2_with fail
  go_ret
  exact ⟨rfl, hbb⟩
end Go.Proofs.YtodlkjdmhfcpkaaDoor
