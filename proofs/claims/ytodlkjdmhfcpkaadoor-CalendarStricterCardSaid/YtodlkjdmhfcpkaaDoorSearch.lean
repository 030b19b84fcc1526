/-
  The contracts of search, at Next's closure, and of Next.
-/
import Derived.Test.YtodlkjdmhfcpkaaDoorNext
namespace Go.Proofs.YtodlkjdmhfcpkaaDoor
open Go.RowKit

/-- What search answers: the first day from one on with another decision, if there is one. -/
def SearchOut (D : Int → Int) (now fr : Int) (e : Ending) : Prop :=
  (∃ d : Int, fr ≤ d ∧ d ≤ 65536 ∧ (∀ j, fr ≤ j → j < d → D j = now) ∧ D d ≠ now ∧ e = .returned (.tuple #[.int .i64 d, .bool true])) ∨
  ((∀ j, fr ≤ j → j ≤ 65536 → D j = now) ∧ e = .returned (.tuple #[.int .i64 0, .bool false]))
set_option maxHeartbeats 1000000 in
theorem search_any (b g : Nat) (kp un ac : Int) (v : Nat → Value) (cr us ex : Int) (ar : Bool) (now fr : Int) (w : World) (hB : Boxed w b kp un ac v cr us ex ar) (hn : w.cell? ⟨g, 0, none⟩ = some (.int .i64 now)) (f0 : 0 ≤ fr) (f1 : fr ≤ 65537) :
    Calls Tryd.prog 42 #[.int .i64 fr, .func (.func 43) #[] #[.pointer (some ⟨b, 0, none⟩), .pointer (some ⟨b + 1, 0, none⟩), .pointer (some ⟨g, 0, none⟩)]] w fun e w' => SearchOut (decI kp un ac cr us ex ar) now fr e ∧ Below w.heap.size w w' := by
  have HB := Lib.hid hB
  have HN := Lib.hid hn
  have hlt := World.block_lt_of_cell? _ _ hn
  have HL := Lib.hid hlt
  clear hB hn hlt
  go_enter Tryd.func42, Tryd.ntmps42
  go_wp2_with fail
  go_loopw [6] (fun s wr => ∃ d : Int, fr ≤ d ∧ d ≤ 65537 ∧ (∀ j, fr ≤ j → j < d → decI kp un ac cr us ex ar j = now) ∧ s = .int .i64 d ∧ Below w.heap.size w wr) (fun s _ => (65537 - intOf s).toNat)
  case atStart => exact ⟨fr, by omega, by omega, fun j h1 h2 => by omega, rfl, Below.refl _ _⟩
  case round =>
    obtain ⟨d, hd0, hd1, hall, rfl, hb⟩ := hrel
    have HA := Lib.hid hall
    have HBL := Lib.hid hb
    clear hall hb
    by_cases hle : d ≤ 65536
    · have B1 := Lib.hid (HB.out.below HBL.out)
      have N1 := Lib.hid ((HBL.out.cell (p := ⟨g, 0, none⟩) HL.out).trans HN.out)
      cases hx : (decI kp un ac cr us ex ar d != now) with
      | true =>
        have HX := Lib.hid (show decI kp un ac cr us ex ar d ≠ now by simpa using hx)
        go_wp2_with (go_at_call 43; refine (other_any b g kp un ac v cr us ex ar now d _ B1.out N1.out).mono ?_; rw [hx]; rintro e w1 ⟨rfl, hb1⟩)
        go_ret2
        exact ⟨Or.inl ⟨d, hd0, hle, HA.out, HX.out, rfl⟩, HBL.out.trans (hb1.mono HBL.out.size)⟩
      | false =>
        have HX := Lib.hid (show decI kp un ac cr us ex ar d = now by simpa using hx)
        go_wp2_with (go_at_call 43; refine (other_any b g kp un ac v cr us ex ar now d _ B1.out N1.out).mono ?_; rw [hx]; rintro e w1 ⟨rfl, hb1⟩)
        go_roundw
        case rel => exact ⟨d + 1, by omega, by omega, fun j h1 h2 => if h : j < d then HA.out j h1 h else by (have : j = d := by omega); rw [this]; exact HX.out, rfl, HBL.out.trans (hb1.mono HBL.out.size)⟩
        case measure => simp [intOf]; omega
    · go_wp2_with fail
      go_ret2
      exact ⟨Or.inr ⟨fun j h1 h2 => HA.out j h1 (by omega), rfl⟩, HBL.out⟩
/-- What Next answers. -/
def NextOut (D : Int → Int) (t : Int) (e : Ending) : Prop :=
  (isD t = true ∧ SearchOut D (D t) (t + 1) e) ∨ (isD t = false ∧ e = .returned (.tuple #[.int .i64 0, .bool false]))
set_option maxHeartbeats 1000000 in
theorem next_any (kp un ac : Int) (v : Nat → Value) (cr us ex : Int) (ar : Bool) (t : Int) (w : World) :
    Calls Tryd.prog 27 #[.agg #[.int .i64 kp, .int .i64 un, .int .i64 ac], .agg (entry v cr us ex ar), .int .i64 t] w fun e w' => NextOut (decI kp un ac cr us ex ar) t e ∧ Below w.heap.size w w' := by
  have B0 := Lib.hid (Boxed.new w kp un ac v cr us ex ar)
  have N0 := Lib.hid ((((Below.refl w.heap.size w).alloc (Nat.le_refl _) (.cells #[.int .i64 kp, .int .i64 un, .int .i64 ac] 37)).alloc (by simp) (.cells (entry v cr us ex ar) 43)))
  cases ht : isD t with
  | false =>
    have HT := Lib.hid ht
    go_enter Tryd.func27, Tryd.ntmps27
    go_wp2_with (go_at_call 30; refine (isDay_any _ _).mono ?_; rintro e w' ⟨rfl, rfl⟩)
    go_ret2
    exact ⟨Or.inr ⟨HT.out, rfl⟩, N0.out⟩
  | true =>
    obtain ⟨t0, t1⟩ := isD_true.1 ht
    have HT := Lib.hid ht
    go_enter Tryd.func27, Tryd.ntmps27
    go_wp2_with (first | (go_at_call 30; refine (isDay_any _ _).mono ?_; rintro e w' ⟨rfl, rfl⟩) | (refine load_entry _ rfl (by rfl) (w.heap.size + 1) rfl v cr us ex ar B0.out.e ?_) | (refine load_policy _ rfl (by rfl) w.heap.size rfl kp un ac B0.out.p ?_))
    refine (decide_any kp un ac v cr us ex ar t _).mono ?_
    rintro e w1 ⟨rfl, hb1⟩
    have hz := hb1.size
    simp at hz
    have B1 := Lib.hid (B0.out.below hb1)
    have N1 := Lib.hid (N0.out.trans (hb1.mono (by simp; omega)))
    clear hb1
    go_wp2_with fail
    refine (search_any w.heap.size w1.heap.size kp un ac v cr us ex ar (decI kp un ac cr us ex ar t) (t + 1) _ (B1.out.below ((Below.refl _ _).alloc (Nat.le_refl _) _)) (by simp [World.cell?_alloc_new]) (by omega) (by omega)).mono ?_
    rintro e w2 ⟨hs, hb2⟩
    have N2 := Lib.hid ((N1.out.alloc N1.out.size (.cells #[.int .i64 (decI kp un ac cr us ex ar t)] 3)).trans (hb2.mono (by have := N1.out.size; simp; omega)))
    clear hb2
    have HS := Lib.hid (show SearchOut (decI kp un ac cr us ex ar) (decI kp un ac cr us ex ar t) (t + 1) e from hs)
    rcases hs with ⟨d, h1, h2, h3, h4, rfl⟩ | ⟨h1, rfl⟩
    · clear h1 h2 h3 h4
      go_wp2_with fail
      go_ret2
      exact ⟨Or.inl ⟨HT.out, HS.out⟩, N2.out⟩
    · clear h1
      go_wp2_with fail
      go_ret2
      exact ⟨Or.inl ⟨HT.out, HS.out⟩, N2.out⟩
end Go.Proofs.YtodlkjdmhfcpkaaDoor
