/-
  The walk of the law CalendarStricter where the first 2 of the three numbers are stricter, and no more.
-/
import Derived.Test.YtodlkjdmhfcpkaaDoorStrictA
import Derived.Test.YtodlkjdmhfcpkaaDoorHeld
namespace Go.Proofs.YtodlkjdmhfcpkaaDoor
open Go.RowKit

set_option maxRecDepth 100000 in
set_option maxHeartbeats 4000000 in
theorem strict_2 (kp un ac kq uq aq : Int) (v : Nat → Value) (cr us ex : Int) (ar : Bool) (t u : Int) (w : World) (ht : Tab w) (h1 : isD t = true) (h2 : isD u = true) (h3 : t ≤ u) (h4 : isD kp = true) (h5 : isD un = true) (h6 : isD ac = true) (s1 : strictB kp kq = true) (s2 : strictB un uq = true) (s3 : strictB ac aq = false) :
    Calls Tryd.prog 9 #[.agg #[.int .i64 kp, .int .i64 un, .int .i64 ac], .agg #[.int .i64 kq, .int .i64 uq, .int .i64 aq], .agg (entry v cr us ex ar), .int .i64 t, .int .i64 u] w fun e w' => e = .returned (.bool true) ∧ Below w.heap.size w w' := by
  have hm : decide (decI kp un ac cr us ex ar u < decI kp un ac cr us ex ar t) = false := by have := dec_mono kp un ac cr us ex ar h3 h1 h2; simp; omega
  have HT := Lib.hid ht
  clear ht
  have N0 := Lib.hid (((((Below.refl w.heap.size w).alloc (Nat.le_refl _) (.cells #[.int .i64 kp, .int .i64 un, .int .i64 ac] 37)).alloc (by simp) (.cells #[.int .i64 kq, .int .i64 uq, .int .i64 aq] 37)).alloc (by simp; omega) (.cells (entry v cr us ex ar) 43)))
  go_enter Tryd.func9, Tryd.ntmps9
  go_wp2_with fail
  refine (awake_true _ (HT.out.below N0.out)).mono ?_
  rintro e w1 ⟨rfl, hb1⟩
  have B1 := Lib.hid (boxed_new w kp un ac kq uq aq v cr us ex ar w1 hb1)
  have N1' := N0.out.trans (hb1.mono (by simp; omega))
  have N1 := Lib.hid (N1'.alloc N1'.size (.cells #[.func (.func 28) #[] #[]] 49))
  clear hb1 N1'
  have p0 := B1.out.p0
  have p1 := B1.out.p1
  have p2 := B1.out.p2
  go_wp2_with (go_at_call 28; refine (dayFn_any _ _).mono ?_; rintro e w' ⟨rfl, rfl⟩)
  refine held_start (S := fun w' => Boxed3 w' w.heap.size w1.heap.size kp un ac kq uq aq v cr us ex ar) 9 [false, false, false, false, false, false, false, false, false] rfl rfl (by kernel_rfl) B1.out.drew (fun hS => ?_)
  refine held_take 0 52 rfl rfl (by kernel_rfl) (by kernel_rfl) (by kernel_rfl) (fun _ _ _ h => h) (yieldsW_policy _ rfl (by rfl) w.heap.size rfl fun w h => h.p) hS ?_
  dsimp only [List.set]
  refine held_take 1 53 rfl rfl (by kernel_rfl) (by kernel_rfl) (by kernel_rfl) (fun _ _ _ h => h) (yieldsW_entry _ rfl (by rfl) (w.heap.size + 1 + 1) rfl fun w h => h.e) hS ?_
  dsimp only [List.set]
  refine held_take 2 54 (v := .int .i64 t) rfl rfl (by kernel_rfl) (by kernel_rfl) (by kernel_rfl) (fun _ _ _ h => h) (Or.inl ⟨by rfl, fun w h => by go_simp⟩) hS ?_
  dsimp only [List.set]
  refine held_take 4 56 rfl rfl (by kernel_rfl) (by kernel_rfl) (by kernel_rfl) (fun _ _ _ h => h) (yieldsW_policy _ rfl (by rfl) w.heap.size rfl fun w h => h.p) hS ?_
  dsimp only [List.set]
  refine held_take 5 57 rfl rfl (by kernel_rfl) (by kernel_rfl) (by kernel_rfl) (fun _ _ _ h => h) (yieldsW_entry _ rfl (by rfl) (w.heap.size + 1 + 1) rfl fun w h => h.e) hS ?_
  dsimp only [List.set]
  refine held_take 6 58 (v := .int .i64 u) rfl rfl (by kernel_rfl) (by kernel_rfl) (by kernel_rfl) (fun _ _ _ h => h) (Or.inl ⟨by rfl, fun w h => by go_simp⟩) hS ?_
  dsimp only [List.set]
  refine held_ready 3 rfl (by kernel_rfl) (fun K' hK => ?_)
  go_simp
  refine (decide_any kp un ac v cr us ex ar t _).mono ?_
  rintro e w2 ⟨rfl, hb⟩
  have N2 := Lib.hid (N1.out.drew.trans (hb.mono N1.out.size))
  refine hK.out _ _ (hS.below hb) (fun hS2 => ?_)
  clear hK hb
  dsimp only [List.set]
  refine held_ready 7 rfl (by kernel_rfl) (fun K' hK => ?_)
  go_simp
  refine (decide_any kp un ac v cr us ex ar u _).mono ?_
  rintro e w3 ⟨rfl, hb⟩
  have N3 := Lib.hid (N2.out.trans (hb.mono N2.out.size))
  refine hK.out _ _ (hS2.below hb) (fun hS3 => ?_)
  clear hK hb
  dsimp only [List.set]
  refine held_take 8 60 (v := .bool false) rfl rfl (by kernel_rfl) (by kernel_rfl) (by kernel_rfl) (fun _ _ _ h => h) (Or.inl ⟨by rfl, fun w h => by go_simp⟩) hS3 ?_
  dsimp only [List.set]
  refine wpAnyH_done (by kernel_rfl) ?_ _
  have B3 := Lib.hid hS3
  clear hS hS2 hS3
  go_wp2_with fail
  refine held_start (S := fun w' => Boxed3 w' w.heap.size w1.heap.size kp un ac kq uq aq v cr us ex ar) 37 [false, false, false, false, false, false, false, false, false, false, false, false, false, false, false, false, false, false, false, false, false, false, false, false, false, false, false, false, false, false, false, false, false, false, false, false, false] rfl rfl (by kernel_rfl) B3.out.drew (fun hS => ?_)
  refine held_take 0 61 (v := .func (.func 29) #[] #[.pointer (some ⟨w1.heap.size, 0, none⟩)]) rfl rfl (by kernel_rfl) (by kernel_rfl) (by kernel_rfl) (fun _ _ _ h => h) (Or.inl ⟨by rfl, fun w h => by go_simp⟩) hS ?_
  dsimp only [List.set]
  refine held_take 1 62 (v := .pointer (some ⟨w.heap.size, 0, none⟩)) rfl rfl (by kernel_rfl) (by kernel_rfl) (by kernel_rfl) (fun _ _ _ h => h) (Or.inl ⟨by rfl, fun w h => by go_simp⟩) hS ?_
  dsimp only [List.set]
  refine held_take 2 63 (v := .int .i64 kp) rfl rfl (by kernel_rfl) (by kernel_rfl) (by kernel_rfl) (fun _ _ _ h => h) (Or.inl ⟨by rfl, fun w h => by have hq := h.p0; go_simp⟩) hS ?_
  dsimp only [List.set]
  refine held_take 3 64 (v := .pointer (some ⟨w.heap.size + 1, 0, none⟩)) rfl rfl (by kernel_rfl) (by kernel_rfl) (by kernel_rfl) (fun _ _ _ h => h) (Or.inl ⟨by rfl, fun w h => by go_simp⟩) hS ?_
  dsimp only [List.set]
  refine held_take 4 65 (v := .int .i64 kq) rfl rfl (by kernel_rfl) (by kernel_rfl) (by kernel_rfl) (fun _ _ _ h => h) (Or.inl ⟨by rfl, fun w h => by have hq := h.q0; go_simp⟩) hS ?_
  dsimp only [List.set]
  refine held_ready 5 rfl (by kernel_rfl) (fun K' hK => ?_)
  go_simp
  refine (strictFn_any kp kq w1.heap.size _ hS.fn).mono ?_
  rw [s1]
  rintro e w' ⟨rfl, rfl⟩
  refine hK.out _ _ hS (fun hA => ?_)
  clear hK
  dsimp only [List.set]
  refine held_take 6 67 (v := .bool false) rfl rfl (by kernel_rfl) (by kernel_rfl) (by kernel_rfl) (fun _ _ _ h => h) (Or.inl ⟨by rfl, fun w h => by go_simp⟩) hA ?_
  dsimp only [List.set]
  refine held_take 7 68 (v := .bool false) rfl rfl (by kernel_rfl) (by kernel_rfl) (by kernel_rfl) (fun _ _ _ h => h) (Or.inl ⟨by rfl, fun w h => by go_simp⟩) hA ?_
  dsimp only [List.set]
  refine held_take 8 69 (v := .func (.func 29) #[] #[.pointer (some ⟨w1.heap.size, 0, none⟩)]) rfl rfl (by kernel_rfl) (by kernel_rfl) (by kernel_rfl) (fun _ _ _ h => h) (Or.inl ⟨by rfl, fun w h => by go_simp⟩) hA ?_
  dsimp only [List.set]
  refine held_take 9 70 (v := .pointer (some ⟨w.heap.size, 1, none⟩)) rfl rfl (by kernel_rfl) (by kernel_rfl) (by kernel_rfl) (fun _ _ _ h => h) (Or.inl ⟨by rfl, fun w h => by go_simp⟩) hA ?_
  dsimp only [List.set]
  refine held_take 10 71 (v := .int .i64 un) rfl rfl (by kernel_rfl) (by kernel_rfl) (by kernel_rfl) (fun _ _ _ h => h) (Or.inl ⟨by rfl, fun w h => by have hq := h.p1; go_simp⟩) hA ?_
  dsimp only [List.set]
  refine held_take 11 72 (v := .pointer (some ⟨w.heap.size + 1, 1, none⟩)) rfl rfl (by kernel_rfl) (by kernel_rfl) (by kernel_rfl) (fun _ _ _ h => h) (Or.inl ⟨by rfl, fun w h => by go_simp⟩) hA ?_
  dsimp only [List.set]
  refine held_take 12 73 (v := .int .i64 uq) rfl rfl (by kernel_rfl) (by kernel_rfl) (by kernel_rfl) (fun _ _ _ h => h) (Or.inl ⟨by rfl, fun w h => by have hq := h.q1; go_simp⟩) hA ?_
  dsimp only [List.set]
  refine held_ready 13 rfl (by kernel_rfl) (fun K' hK => ?_)
  go_simp
  refine (strictFn_any un uq w1.heap.size _ hA.fn).mono ?_
  rw [s2]
  rintro e w' ⟨rfl, rfl⟩
  refine hK.out _ _ hA (fun hB => ?_)
  clear hK
  dsimp only [List.set]
  refine held_take 14 75 (v := .bool false) rfl rfl (by kernel_rfl) (by kernel_rfl) (by kernel_rfl) (fun _ _ _ h => h) (Or.inl ⟨by rfl, fun w h => by go_simp⟩) hB ?_
  dsimp only [List.set]
  refine held_take 15 76 (v := .bool false) rfl rfl (by kernel_rfl) (by kernel_rfl) (by kernel_rfl) (fun _ _ _ h => h) (Or.inl ⟨by rfl, fun w h => by go_simp⟩) hB ?_
  dsimp only [List.set]
  refine held_take 16 77 (v := .bool false) rfl rfl (by kernel_rfl) (by kernel_rfl) (by kernel_rfl) (fun _ _ _ h => h) (Or.inl ⟨by rfl, fun w h => by go_simp⟩) hB ?_
  dsimp only [List.set]
  refine held_take 17 78 (v := .func (.func 29) #[] #[.pointer (some ⟨w1.heap.size, 0, none⟩)]) rfl rfl (by kernel_rfl) (by kernel_rfl) (by kernel_rfl) (fun _ _ _ h => h) (Or.inl ⟨by rfl, fun w h => by go_simp⟩) hB ?_
  dsimp only [List.set]
  refine held_take 18 79 (v := .pointer (some ⟨w.heap.size, 2, none⟩)) rfl rfl (by kernel_rfl) (by kernel_rfl) (by kernel_rfl) (fun _ _ _ h => h) (Or.inl ⟨by rfl, fun w h => by go_simp⟩) hB ?_
  dsimp only [List.set]
  refine held_take 19 80 (v := .int .i64 ac) rfl rfl (by kernel_rfl) (by kernel_rfl) (by kernel_rfl) (fun _ _ _ h => h) (Or.inl ⟨by rfl, fun w h => by have hq := h.p2; go_simp⟩) hB ?_
  dsimp only [List.set]
  refine held_take 20 81 (v := .pointer (some ⟨w.heap.size + 1, 2, none⟩)) rfl rfl (by kernel_rfl) (by kernel_rfl) (by kernel_rfl) (fun _ _ _ h => h) (Or.inl ⟨by rfl, fun w h => by go_simp⟩) hB ?_
  dsimp only [List.set]
  refine held_take 21 82 (v := .int .i64 aq) rfl rfl (by kernel_rfl) (by kernel_rfl) (by kernel_rfl) (fun _ _ _ h => h) (Or.inl ⟨by rfl, fun w h => by have hq := h.q2; go_simp⟩) hB ?_
  dsimp only [List.set]
  refine held_ready 22 rfl (by kernel_rfl) (fun K' hK => ?_)
  go_simp
  refine (strictFn_any ac aq w1.heap.size _ hB.fn).mono ?_
  rw [s3]
  rintro e w' ⟨rfl, rfl⟩
  refine hK.out _ _ hB (fun hC => ?_)
  clear hK
  dsimp only [List.set]
  refine held_take 23 84 (v := .bool true) rfl rfl (by kernel_rfl) (by kernel_rfl) (by kernel_rfl) (fun _ _ _ h => h) (Or.inl ⟨by rfl, fun w h => by go_simp⟩) hC ?_
  dsimp only [List.set]
  refine held_take 24 85 (v := .bool true) rfl rfl (by kernel_rfl) (by kernel_rfl) (by kernel_rfl) (fun _ _ _ h => h) (Or.inl ⟨by rfl, fun w h => by go_simp⟩) hC ?_
  dsimp only [List.set]
  refine held_take 25 86 (v := .bool true) rfl rfl (by kernel_rfl) (by kernel_rfl) (by kernel_rfl) (fun _ _ _ h => h) (Or.inl ⟨by rfl, fun w h => by go_simp⟩) hC ?_
  dsimp only [List.set]
  refine held_take 26 87 (v := undef) rfl rfl (by kernel_rfl) (by kernel_rfl) (by kernel_rfl) (fun _ _ _ h => h) (Or.inr ⟨by rfl, rfl⟩) hC ?_
  dsimp only [List.set]
  refine held_take 27 88 (v := undef) rfl rfl (by kernel_rfl) (by kernel_rfl) (by kernel_rfl) (fun _ _ _ h => h) (Or.inr ⟨by rfl, rfl⟩) hC ?_
  dsimp only [List.set]
  refine held_take 28 89 (v := undef) rfl rfl (by kernel_rfl) (by kernel_rfl) (by kernel_rfl) (fun _ _ _ h => h) (Or.inr ⟨by rfl, rfl⟩) hC ?_
  dsimp only [List.set]
  refine held_take 29 90 (v := undef) rfl rfl (by kernel_rfl) (by kernel_rfl) (by kernel_rfl) (fun _ _ _ h => h) (Or.inr ⟨by rfl, rfl⟩) hC ?_
  dsimp only [List.set]
  refine held_take 30 91 (v := undef) rfl rfl (by kernel_rfl) (by kernel_rfl) (by kernel_rfl) (fun _ _ _ h => h) (Or.inr ⟨by rfl, rfl⟩) hC ?_
  dsimp only [List.set]
  refine held_take 31 92 (v := undef) rfl rfl (by kernel_rfl) (by kernel_rfl) (by kernel_rfl) (fun _ _ _ h => h) (Or.inr ⟨by rfl, rfl⟩) hC ?_
  dsimp only [List.set]
  refine held_take 32 93 (v := undef) rfl rfl (by kernel_rfl) (by kernel_rfl) (by kernel_rfl) (fun _ _ _ h => h) (Or.inr ⟨by rfl, rfl⟩) hC ?_
  dsimp only [List.set]
  refine held_take 33 94 (v := undef) rfl rfl (by kernel_rfl) (by kernel_rfl) (by kernel_rfl) (fun _ _ _ h => h) (Or.inr ⟨by rfl, rfl⟩) hC ?_
  dsimp only [List.set]
  refine held_take 34 95 (v := undef) rfl rfl (by kernel_rfl) (by kernel_rfl) (by kernel_rfl) (fun _ _ _ h => h) (Or.inr ⟨by rfl, rfl⟩) hC ?_
  dsimp only [List.set]
  refine held_take 35 96 (v := .bool true) rfl rfl (by kernel_rfl) (by kernel_rfl) (by kernel_rfl) (fun _ _ _ h => h) (Or.inl ⟨by rfl, fun w h => by go_simp⟩) hC ?_
  dsimp only [List.set]
  refine held_take 36 10 (v := .bool true) rfl rfl (by kernel_rfl) (by kernel_rfl) (by kernel_rfl) (fun _ _ _ h => h) (Or.inl ⟨by rfl, fun w h => by go_simp⟩) hC ?_
  dsimp only [List.set]
  refine wpAnyH_done (by kernel_rfl) ?_ _
  clear hS
  go_wp2_with fail
  go_ret
  exact ⟨rfl, N3.out.drew⟩
end Go.Proofs.YtodlkjdmhfcpkaaDoor
