/-
  The walk of the law CalendarDecides: it returns true for every policy, entry and number.
-/
import Derived.Test.YtodlkjdmhfcpkaaDoorAwake
import Derived.Test.YtodlkjdmhfcpkaaDoorDecideR
namespace Go.Proofs.YtodlkjdmhfcpkaaDoor
open Go.RowKit

section
variable {ops : Array Oper} {S : World → Prop} {o : Oper} {a : Act}
theorem yieldsW_entry (x : Operand) (ho : o.op = .load 43 x) (hw : Region.wanted o (yielded ops a.tmps) = true) (g : Nat) (hx : a.eval x = .pointer (some ⟨g, 0, none⟩)) {v : Nat → Value} {cr us ex : Int} {ar : Bool} (hS : ∀ w, S w → w.heap[g]? = some (.cells (entry v cr us ex ar) 43 (0, 0))) :
    YieldsIf Tryd.prog ops S o (.agg (entry v cr us ex ar)) a :=
  Or.inl ⟨hw, fun w h => by
    unfold execOp
    simp only [ho, hx, Sem.run_bind, loadAt_entry w g v cr us ex ar (hS w h), Result.andThen_ok, Sem.run_pure]⟩
theorem yieldsW_policy (x : Operand) (ho : o.op = .load 37 x) (hw : Region.wanted o (yielded ops a.tmps) = true) (g : Nat) (hx : a.eval x = .pointer (some ⟨g, 0, none⟩)) {kp un ac : Int} (hS : ∀ w, S w → w.heap[g]? = some (.cells #[.int .i64 kp, .int .i64 un, .int .i64 ac] 37 (0, 0))) :
    YieldsIf Tryd.prog ops S o (.agg #[.int .i64 kp, .int .i64 un, .int .i64 ac]) a :=
  Or.inl ⟨hw, fun w h => by
    unfold execOp
    simp only [ho, hx, Sem.run_bind, loadAt_policy w g kp un ac (hS w h), Result.andThen_ok, Sem.run_pure]⟩
end
set_option maxHeartbeats 2000000 in
theorem decides_walk (kp un ac : Int) (v : Nat → Value) (cr us ex : Int) (ar : Bool) (t : Int) (w : World) (ht : Tab w) :
    Calls Tryd.prog 7 #[.agg #[.int .i64 kp, .int .i64 un, .int .i64 ac], .agg (entry v cr us ex ar), .int .i64 t] w fun e w' => e = .returned (.bool true) ∧ Below w.heap.size w w' := by
  have HT := Lib.hid ht
  clear ht
  have B0 := Lib.hid (Boxed.new w kp un ac v cr us ex ar)
  have N0 := Lib.hid ((((Below.refl w.heap.size w).alloc (Nat.le_refl _) (.cells #[.int .i64 kp, .int .i64 un, .int .i64 ac] 37)).alloc (by simp) (.cells (entry v cr us ex ar) 43)))
  go_enter Tryd.func7, Tryd.ntmps7
  go_wp2_with fail
  refine (awake_true _ (HT.out.below N0.out)).mono ?_
  rintro e w1 ⟨rfl, hb1⟩
  have B1 := Lib.hid (B0.out.below hb1)
  have N1 := Lib.hid (N0.out.trans (hb1.mono (by simp; omega)))
  clear hb1
  go_wp2_with fail
  refine wp_region_held_drew (S := fun w' => Boxed w' w.heap.size kp un ac v cr us ex ar) (by kernel_rfl) B1.out.drew (fun hS => ?_)
  refine wpAnyH_take (i := 0) rfl (by kernel_rfl) (by kernel_rfl) (by kernel_rfl) (fun _ _ _ h => h) (yieldsW_entry _ rfl (by rfl) (w.heap.size + 1) rfl fun w h => h.e) hS ?_
  refine wpAnyH_take (i := 1) (v := .int .i64 t) rfl (by kernel_rfl) (by kernel_rfl) (by kernel_rfl) (fun _ _ _ h => h) (Or.inl ⟨by rfl, fun w h => by go_simp⟩) hS ?_
  refine wpAnyH_take (i := 3) rfl (by kernel_rfl) (by kernel_rfl) (by kernel_rfl) (fun _ _ _ h => h) (yieldsW_entry _ rfl (by rfl) (w.heap.size + 1) rfl fun w h => h.e) hS ?_
  refine wpAnyH_take (i := 4) (v := .int .i64 t) rfl (by kernel_rfl) (by kernel_rfl) (by kernel_rfl) (fun _ _ _ h => h) (Or.inl ⟨by rfl, fun w h => by go_simp⟩) hS ?_
  refine wpAnyH_ready (rs := [2]) (by kernel_rfl) (by simp) (AllReadyH.cons rfl (fun K hK => ?_) AllReadyH.nil)
  go_simp
  refine (expired_any v cr us ex t ar _).mono ?_
  rintro e w2 ⟨rfl, hb⟩
  have N2 := Lib.hid (N1.out.drew.trans (hb.mono N1.out.size))
  refine hK.out _ _ (hS.below hb) (fun hS2 => ?_)
  clear hK hb
  refine wpAnyH_ready (rs := [5]) (by kernel_rfl) (by simp) (AllReadyH.cons rfl (fun K hK => ?_) AllReadyH.nil)
  go_simp
  refine (refExpired_any v cr us ex t ar _).mono ?_
  rintro e w3 ⟨rfl, hb⟩
  have N3 := Lib.hid (N2.out.trans (hb.mono N2.out.size))
  refine hK.out _ _ (hS2.below hb) (fun hS3 => ?_)
  clear hK hb
  refine wpAnyH_take (i := 6) (v := .bool true) rfl (by kernel_rfl) (by kernel_rfl) (by kernel_rfl) (fun _ _ _ h => h) (Or.inl ⟨by rfl, fun w h => by go_simp⟩) hS3 ?_
  refine wpAnyH_take (i := 7) (v := .bool true) rfl (by kernel_rfl) (by kernel_rfl) (by kernel_rfl) (fun _ _ _ h => h) (Or.inl ⟨by rfl, fun w h => by go_simp⟩) hS3 ?_
  refine wpAnyH_take (i := 8) rfl (by kernel_rfl) (by kernel_rfl) (by kernel_rfl) (fun _ _ _ h => h) (yieldsW_policy _ rfl (by rfl) w.heap.size rfl fun w h => h.p) hS3 ?_
  refine wpAnyH_take (i := 9) rfl (by kernel_rfl) (by kernel_rfl) (by kernel_rfl) (fun _ _ _ h => h) (yieldsW_entry _ rfl (by rfl) (w.heap.size + 1) rfl fun w h => h.e) hS3 ?_
  refine wpAnyH_take (i := 10) (v := .int .i64 t) rfl (by kernel_rfl) (by kernel_rfl) (by kernel_rfl) (fun _ _ _ h => h) (Or.inl ⟨by rfl, fun w h => by go_simp⟩) hS3 ?_
  refine wpAnyH_take (i := 12) rfl (by kernel_rfl) (by kernel_rfl) (by kernel_rfl) (fun _ _ _ h => h) (yieldsW_policy _ rfl (by rfl) w.heap.size rfl fun w h => h.p) hS3 ?_
  refine wpAnyH_take (i := 13) rfl (by kernel_rfl) (by kernel_rfl) (by kernel_rfl) (fun _ _ _ h => h) (yieldsW_entry _ rfl (by rfl) (w.heap.size + 1) rfl fun w h => h.e) hS3 ?_
  refine wpAnyH_take (i := 14) (v := .int .i64 t) rfl (by kernel_rfl) (by kernel_rfl) (by kernel_rfl) (fun _ _ _ h => h) (Or.inl ⟨by rfl, fun w h => by go_simp⟩) hS3 ?_
  refine wpAnyH_ready (rs := [11]) (by kernel_rfl) (by simp) (AllReadyH.cons rfl (fun K hK => ?_) AllReadyH.nil)
  go_simp
  refine (decide_any kp un ac v cr us ex ar t _).mono ?_
  rintro e w4 ⟨rfl, hb⟩
  have N4 := Lib.hid (N3.out.trans (hb.mono N3.out.size))
  refine hK.out _ _ (hS3.below hb) (fun hS4 => ?_)
  clear hK hb
  refine wpAnyH_ready (rs := [15]) (by kernel_rfl) (by simp) (AllReadyH.cons rfl (fun K hK => ?_) AllReadyH.nil)
  go_simp
  refine (refDecide_any kp un ac v cr us ex ar t _).mono ?_
  rintro e w5 ⟨rfl, hb⟩
  have N5 := Lib.hid (N4.out.trans (hb.mono N4.out.size))
  refine hK.out _ _ (hS4.below hb) (fun hS5 => ?_)
  clear hK hb
  refine wpAnyH_take (i := 16) (v := .bool true) rfl (by kernel_rfl) (by kernel_rfl) (by kernel_rfl) (fun _ _ _ h => h) (Or.inl ⟨by rfl, fun w h => by go_simp⟩) hS5 ?_
  refine wpAnyH_take (i := 17) (v := .bool true) rfl (by kernel_rfl) (by kernel_rfl) (by kernel_rfl) (fun _ _ _ h => h) (Or.inl ⟨by rfl, fun w h => by go_simp⟩) hS5 ?_
  refine wpAnyH_take (i := 18) (v := .bool true) rfl (by kernel_rfl) (by kernel_rfl) (by kernel_rfl) (fun _ _ _ h => h) (Or.inl ⟨by rfl, fun w h => by go_simp⟩) hS5 ?_
  refine wpAnyH_done (by kernel_rfl) ?_ _
  clear hS hS2 hS3 hS4 hS5
  go_wp2_with fail
  go_ret
  exact ⟨rfl, N5.out⟩
end Go.Proofs.YtodlkjdmhfcpkaaDoor
