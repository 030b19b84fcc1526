/-
  The walk of the law DsnameBelow: it returns true for every two texts.
-/
import Derived.Test.YtkoaeldlflncpaaDoorBelow
import Derived.Test.YtkoaeldlflncpaaDoorAwake
namespace Go.Proofs.YtkoaeldlflncpaaDoor
open Go.RowKit Go.PlainAid

theorem below_long (p s : ByteArray) (w : World) (hm : MaxLen w) (ht : Tab w) (hz : 28 < p.size) :
    Calls Tryd.prog 3 #[.string p, .string s] w fun e w' => e = .returned (.bool true) ∧ Below w.heap.size w w' := by
  have HM := Lib.hid hm
  have HT := Lib.hid ht
  clear hm ht
  have hz' : decide ((28 : Int) < (p.size : Int)) = true := by simp; omega
  go_enter Tryd.func3, Tryd.ntmps3
  go_wp2_with fail
  refine (awake_true _ HM.out HT.out).mono ?_
  rintro e w1 ⟨rfl, hb⟩
  have B1 := Lib.hid hb
  clear hb
  go_wp2_with fail
  go_ret
  exact ⟨rfl, B1.out⟩
theorem below_nopat (p s : ByteArray) (w : World) (hm : MaxLen w) (ht : Tab w) (hz : p.size ≤ 28) (hp : patB p = false) :
    Calls Tryd.prog 3 #[.string p, .string s] w fun e w' => e = .returned (.bool true) ∧ Below w.heap.size w w' := by
  have HM := Lib.hid hm
  have HT := Lib.hid ht
  clear hm ht
  have hz' : decide ((28 : Int) < (p.size : Int)) = false := by simp; omega
  go_enter Tryd.func3, Tryd.ntmps3
  go_wp2_with fail
  refine (awake_true _ HM.out HT.out).mono ?_
  rintro e w1 ⟨rfl, hb⟩
  have B1 := Lib.hid hb
  have M1 := Lib.hid (HM.out.below B1.out)
  clear hb
  go_wp2_with (go_at_call 11; refine (pattern_any p _ M1.out).mono ?_; rw [hp]; rintro e w' ⟨rfl, hb⟩)
  go_ret
  exact ⟨rfl, B1.out.trans (hb.mono B1.out.size)⟩
theorem below_noname (p s : ByteArray) (w : World) (hm : MaxLen w) (ht : Tab w) (hz : p.size ≤ 28) (hp : patB p = true) (hs : validB s = false) :
    Calls Tryd.prog 3 #[.string p, .string s] w fun e w' => e = .returned (.bool true) ∧ Below w.heap.size w w' := by
  have HM := Lib.hid hm
  have HT := Lib.hid ht
  clear hm ht
  have hz' : decide ((28 : Int) < (p.size : Int)) = false := by simp; omega
  go_enter Tryd.func3, Tryd.ntmps3
  go_wp2_with fail
  refine (awake_true _ HM.out HT.out).mono ?_
  rintro e w1 ⟨rfl, hb⟩
  have B1 := Lib.hid hb
  have M1 := Lib.hid (HM.out.below B1.out)
  clear hb
  go_wp2_with fail
  refine (pattern_any p _ M1.out).mono ?_
  rw [hp]
  rintro e w2 ⟨rfl, hb⟩
  have B2 := Lib.hid (B1.out.trans (hb.mono B1.out.size))
  have M2 := Lib.hid (HM.out.below B2.out)
  clear hb
  go_wp2_with (go_at_call 12; refine (valid_any s _ M2.out).mono ?_; rw [hs]; rintro e w' ⟨rfl, hb⟩)
  go_ret
  exact ⟨rfl, B2.out.trans (hb.mono B2.out.size)⟩
set_option maxHeartbeats 1000000 in
theorem below_main (p s : ByteArray) (w : World) (hm : MaxLen w) (ht : Tab w) (hz : p.size ≤ 28) (hp : patB p = true) (hs : validB s = true) :
    Calls Tryd.prog 3 #[.string p, .string s] w fun e w' => e = .returned (.bool true) ∧ Below w.heap.size w w' := by
  have HM := Lib.hid hm
  have HT := Lib.hid ht
  clear hm ht
  have hz' : decide ((28 : Int) < (p.size : Int)) = false := by simp; omega
  have HS := Lib.hid hs
  have HP := Lib.hid hp
  obtain ⟨N, hN⟩ : ∃ N, (parts s).length = N := ⟨_, rfl⟩
  have hNb : N ≤ 32 := by
    have := Lib.countB_le dot (by decide) s.size s (Nat.le_refl _)
    have := validB_size hs
    rw [← hN, parts_length]; omega
  have HN := Lib.hid hN
  clear hN
  have hQ : qualsB s = parts s := by unfold qualsB; rw [hs, if_pos rfl]
  go_enter Tryd.func3, Tryd.ntmps3
  go_wp2_with fail
  refine (awake_true _ HM.out HT.out).mono ?_
  rintro e w1 ⟨rfl, hb⟩
  have B1 := Lib.hid hb
  have M1 := Lib.hid (HM.out.below B1.out)
  clear hb
  go_wp2_with fail
  refine (pattern_any p _ M1.out).mono ?_
  rw [hp]
  rintro e w2 ⟨rfl, hb⟩
  have B2 := Lib.hid (B1.out.trans (hb.mono B1.out.size))
  have M2 := Lib.hid (HM.out.below B2.out)
  clear hb
  go_wp2_with fail
  refine (valid_any s _ M2.out).mono ?_
  rw [hs]
  rintro e w3 ⟨rfl, hb⟩
  have B3 := Lib.hid (B2.out.trans (hb.mono B2.out.size))
  have M3 := Lib.hid (HM.out.below B3.out)
  clear hb
  go_wp2_with fail
  refine (qualifiers_any s _ M3.out).mono ?_
  rw [hQ]
  rintro e w4 ⟨v, rfl, hb, ⟨h0, _⟩ | ⟨_, B, _, hB, rfl, ht⟩⟩
  · exact absurd h0 (parts_ne s)
  rw [HN.out]
  have B4 := Lib.hid (B3.out.trans (hb.mono B3.out.size))
  have M4 := Lib.hid (HM.out.below B4.out)
  have T4 := Lib.hid ht
  clear hb ht hp hs hQ
  go_wp2_with fail
  go_loopw [5, 27] (fun x i wr => ∃ j : Nat, j ≤ N ∧ x = .bool (someB p s j) ∧ i = .int .i64 j ∧ Hid (Below w4.heap.size w4 wr)) (fun _ i _ => N - (intOf i).toNat)
  case atStart => exact ⟨0, by omega, rfl, rfl, Lib.hid (Below.refl _ _)⟩
  case round =>
    obtain ⟨j, hj, rfl, rfl, BR⟩ := hrel
    by_cases hlt : j < N
    · cases hd : someB p s j with
      | true =>
        have R : someB p s (j + 1) = true := by simp [someB, hd]
        go_wp2_with fail
        go_roundw
        case rel => exact ⟨j + 1, by omega, by rw [R], by go_num, BR⟩
        case measure => simp [intOf]; omega
      | false =>
        have R : someB p s (j + 1) = matchB p (firstB ((j : Int) + 1) s) := by simp [someB, hd]
        cases hd2 : matchB p (firstB ((j : Int) + 1) s)
        all_goals
          rw [hd2] at R
          go_wp2_with fail
          refine (first_any _ s _ (M4.out.below BR.out)).mono ?_
          rintro e w5 ⟨rfl, hb⟩
          have B5 := Lib.hid (BR.out.trans (hb.mono BR.out.size))
          have M5 := Lib.hid (M4.out.below B5.out)
          clear hb
          go_wp2_with fail
          refine (match_any p _ _ M5.out).mono ?_
          rw [hd2]
          rintro e w6 ⟨rfl, hb⟩
          have B6 := Lib.hid (B5.out.trans (hb.mono B5.out.size))
          clear hb
          go_wp2_with fail
          go_roundw
          case rel => exact ⟨j + 1, by omega, by rw [R], by go_num, B6⟩
          case measure => simp [intOf]; omega
    · obtain rfl : j = N := by omega
      have L : matchB (belowB p) s = someB p s j := by rw [← HN.out]; exact belowB_law HP.out (by omega) HS.out
      have M5 := Lib.hid (M4.out.below BR.out)
      cases hd : someB p s j
      all_goals
        rw [hd] at L
        go_wp2_with fail
        refine (match_any (belowB p) s _ M5.out).mono ?_
        rw [L]
        rintro e w6 ⟨rfl, hb⟩
        have B6 := Lib.hid (BR.out.trans (hb.mono BR.out.size))
        have M6 := Lib.hid (M4.out.below B6.out)
        clear hb
        go_wp2_with fail
        refine (join_any B 0 j j (parts s) _ (T4.out.below B6.out) (Nat.lt_of_lt_of_le hB B6.out.size) HN.out (Nat.le_refl _) (by rw [parts_bs, join_parts, bs_length]; have := validB_size HS.out; omega) (by omega)).mono ?_
        rw [join_parts_bs]
        rintro e w7 ⟨rfl, hb⟩
        have B7 := Lib.hid (B6.out.trans (hb.mono B6.out.size))
        have M7 := Lib.hid (M4.out.below B7.out)
        clear hb
        go_wp2_with fail
        refine (first_any _ s _ M7.out).mono ?_
        rw [show firstB (j : Int) s = s by have := first_all HS.out; rw [HN.out] at this; exact this]
        rintro e w8 ⟨rfl, hb⟩
        have B8 := Lib.hid (B7.out.trans (hb.mono B7.out.size))
        clear hb
        go_wp2_with fail
        go_ret
        exact ⟨rfl, B4.out.trans (B8.out.mono B4.out.size)⟩
/-- The law's walk. -/
theorem below_walk (p s : ByteArray) (w : World) (hm : MaxLen w) (ht : Tab w) :
    Calls Tryd.prog 3 #[.string p, .string s] w fun e w' => e = .returned (.bool true) ∧ Below w.heap.size w w' := by
  by_cases hz : 28 < p.size
  · exact below_long p s w hm ht hz
  · have hz := Nat.le_of_not_lt hz
    cases hp : patB p with
    | false => exact below_nopat p s w hm ht hz hp
    | true =>
      cases hs : validB s with
      | false => exact below_noname p s w hm ht hz hp hs
      | true => exact below_main p s w hm ht hz hp hs
end Go.Proofs.YtkoaeldlflncpaaDoor
