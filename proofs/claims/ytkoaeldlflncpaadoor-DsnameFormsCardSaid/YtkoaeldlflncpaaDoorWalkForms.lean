/-
  The walk of the law DsnameForms: it returns true for every text and number.
-/
import Derived.Test.YtkoaeldlflncpaaDoorRefForms
import Derived.Test.YtkoaeldlflncpaaDoorAwake
namespace Go.Proofs.YtkoaeldlflncpaaDoor
open Go.RowKit Go.PlainAid

theorem forms_long (s : ByteArray) (n : Int) (w : World) (hm : MaxLen w) (ht : Tab w) (hz : 60 < s.size) :
    Calls Tryd.prog 9 #[.string s, .int .i64 n] w fun e w' => e = .returned (.bool true) ∧ Below w.heap.size w w' := by
  have HM := Lib.hid hm
  have HT := Lib.hid ht
  clear hm ht
  have hz' : decide ((60 : Int) < (s.size : Int)) = true := decide_eq_true (by omega)
  go_enter Tryd.func9, Tryd.ntmps9
  go_wp2_with fail
  refine (awake_true _ HM.out HT.out).mono ?_
  rintro e w1 ⟨rfl, hb⟩
  have B1 := Lib.hid hb
  have M1 := Lib.hid (HM.out.below B1.out)
  have T1 := Lib.hid (HT.out.below B1.out)
  clear hb
  go_wp2_with fail
  go_ret
  exact ⟨rfl, B1.out⟩
set_option maxHeartbeats 4000000 in
theorem forms_nil (s : ByteArray) (n : Int) (w : World) (hm : MaxLen w) (ht : Tab w) (hz : s.size ≤ 60) (hq : qualsB s = []) :
    Calls Tryd.prog 9 #[.string s, .int .i64 n] w fun e w' => e = .returned (.bool true) ∧ Below w.heap.size w w' := by
  have HM := Lib.hid hm
  have HT := Lib.hid ht
  clear hm ht
  have hz' : decide ((60 : Int) < (s.size : Int)) = false := decide_eq_false (by omega)
  obtain ⟨v1, V1⟩ : ∃ v, validB s = v := ⟨_, rfl⟩
  obtain ⟨v2, V2⟩ : ∃ v, groupB s = v := ⟨_, rfl⟩
  obtain ⟨v3, V3⟩ : ∃ v, patB s = v := ⟨_, rfl⟩
  obtain ⟨v4, V4⟩ : ∃ v, firstB n s = v := ⟨_, rfl⟩
  obtain ⟨ga, ge, GV⟩ : ∃ a e, genV s n = (a, e) := ⟨_, _, rfl⟩
  obtain ⟨sa, sn, sb, SV⟩ : ∃ a k b, splitV s = (a, k, b) := ⟨_, _, _, rfl⟩
  go_enter Tryd.func9, Tryd.ntmps9
  go_wp2_with fail
  refine (awake_true _ HM.out HT.out).mono ?_
  rintro e w1 ⟨rfl, hb⟩
  have B1 := Lib.hid hb
  have M1 := Lib.hid (HM.out.below B1.out)
  have T1 := Lib.hid (HT.out.below B1.out)
  clear hb
  go_wp2_with fail
  refine (generation_any s n _ M1.out T1.out).mono ?_
  rw [GV]
  rintro e w2 ⟨rfl, hb⟩
  have B2 := Lib.hid (B1.out.trans (hb.mono B1.out.size))
  have M2 := Lib.hid (HM.out.below B2.out)
  have T2 := Lib.hid (HT.out.below B2.out)
  clear hb
  unfold genE
  go_wp2_with fail
  refine (refGen_any s n _).mono ?_
  rw [GV]
  rintro e w3 ⟨rfl, hb⟩
  have B3 := Lib.hid (B2.out.trans (hb.mono B2.out.size))
  have M3 := Lib.hid (HM.out.below B3.out)
  clear hb
  unfold genE
  go_wp2_with fail
  refine (splitName_any s _ M3.out (by omega)).mono ?_
  rw [SV]
  rintro e w4 ⟨rfl, hb⟩
  have B4 := Lib.hid (B3.out.trans (hb.mono B3.out.size))
  have M4 := Lib.hid (HM.out.below B4.out)
  clear hb
  unfold splitE
  go_wp2_with fail
  refine (refSplit_any s _ (by omega)).mono ?_
  rw [SV]
  rintro e w5 ⟨rfl, hb⟩
  have B5 := Lib.hid (B4.out.trans (hb.mono B4.out.size))
  have M5 := Lib.hid (HM.out.below B5.out)
  clear hb
  unfold splitE
  go_wp2_with fail
  refine (valid_any s _ M5.out).mono ?_
  rw [V1]
  rintro e w6 ⟨rfl, hb⟩
  have B6 := Lib.hid (B5.out.trans (hb.mono B5.out.size))
  have M6 := Lib.hid (HM.out.below B6.out)
  clear hb
  go_wp2_with fail
  refine (refValid_any s _).mono ?_
  rw [V1]
  rintro e w7 ⟨rfl, hb⟩
  have B7 := Lib.hid (B6.out.trans (hb.mono B6.out.size))
  have M7 := Lib.hid (HM.out.below B7.out)
  clear hb
  go_wp2_with fail
  refine (isGroup_any s _ M7.out).mono ?_
  rw [V2]
  rintro e w8 ⟨rfl, hb⟩
  have B8 := Lib.hid (B7.out.trans (hb.mono B7.out.size))
  have M8 := Lib.hid (HM.out.below B8.out)
  clear hb
  go_wp2_with fail
  refine (refGroup_any s _).mono ?_
  rw [V2]
  rintro e w9 ⟨rfl, hb⟩
  have B9 := Lib.hid (B8.out.trans (hb.mono B8.out.size))
  have M9 := Lib.hid (HM.out.below B9.out)
  clear hb
  go_wp2_with fail
  refine (pattern_any s _ M9.out).mono ?_
  rw [V3]
  rintro e w10 ⟨rfl, hb⟩
  have B10 := Lib.hid (B9.out.trans (hb.mono B9.out.size))
  have M10 := Lib.hid (HM.out.below B10.out)
  clear hb
  go_wp2_with fail
  refine (refPattern_any s _).mono ?_
  rw [V3]
  rintro e w11 ⟨rfl, hb⟩
  have B11 := Lib.hid (B10.out.trans (hb.mono B10.out.size))
  have M11 := Lib.hid (HM.out.below B11.out)
  clear hb
  go_wp2_with fail
  refine (qualifiers_any s _ M11.out).mono ?_
  rw [hq]
  rintro e w12 ⟨v, rfl, hb, ⟨_, rfl⟩ | ⟨hne, _⟩⟩
  rotate_left
  · exact absurd rfl hne
  have B12 := Lib.hid (B11.out.trans (hb.mono B11.out.size))
  have M12 := Lib.hid (HM.out.below B12.out)
  clear hb
  go_wp2_with fail
  refine (refQuals_any s _).mono ?_
  rw [hq]
  rintro e w13 ⟨v, rfl, hb, ⟨_, rfl⟩ | ⟨hne, _⟩⟩
  rotate_left
  · exact absurd rfl hne
  have B13 := Lib.hid (B12.out.trans (hb.mono B12.out.size))
  have M13 := Lib.hid (HM.out.below B13.out)
  clear hb
  go_wp2_with fail
  refine (texts_nil _).mono ?_
  rintro e w' ⟨rfl, rfl⟩
  go_wp2_with fail
  refine (first_any n s _ M13.out).mono ?_
  rw [V4]
  rintro e w14 ⟨rfl, hb⟩
  have B14 := Lib.hid (B13.out.trans (hb.mono B13.out.size))
  have M14 := Lib.hid (HM.out.below B14.out)
  clear hb
  go_wp2_with fail
  refine (refFirst_any n s _).mono ?_
  rw [V4]
  rintro e w15 ⟨rfl, hb⟩
  have B15 := Lib.hid (B14.out.trans (hb.mono B14.out.size))
  have M15 := Lib.hid (HM.out.below B15.out)
  clear hb
  go_wp2_with fail
  go_ret
  exact ⟨rfl, B15.out⟩
set_option maxHeartbeats 4000000 in
theorem forms_some (s : ByteArray) (n : Int) (w : World) (hm : MaxLen w) (ht : Tab w) (hz : s.size ≤ 60) (hq : qualsB s ≠ []) :
    Calls Tryd.prog 9 #[.string s, .int .i64 n] w fun e w' => e = .returned (.bool true) ∧ Below w.heap.size w w' := by
  have HM := Lib.hid hm
  have HT := Lib.hid ht
  clear hm ht
  have hz' : decide ((60 : Int) < (s.size : Int)) = false := decide_eq_false (by omega)
  obtain ⟨v1, V1⟩ : ∃ v, validB s = v := ⟨_, rfl⟩
  obtain ⟨v2, V2⟩ : ∃ v, groupB s = v := ⟨_, rfl⟩
  obtain ⟨v3, V3⟩ : ∃ v, patB s = v := ⟨_, rfl⟩
  obtain ⟨v4, V4⟩ : ∃ v, firstB n s = v := ⟨_, rfl⟩
  obtain ⟨ga, ge, GV⟩ : ∃ a e, genV s n = (a, e) := ⟨_, _, rfl⟩
  obtain ⟨sa, sn, sb, SV⟩ : ∃ a k b, splitV s = (a, k, b) := ⟨_, _, _, rfl⟩
  obtain ⟨N, hN⟩ : ∃ N, (qualsB s).length = N := ⟨_, rfl⟩
  have hN2 : N ≤ 100 := by
    rw [← hN]; unfold qualsB; split
    · have := parts_few s; omega
    · simp
  have HN := Lib.hid hN
  clear hN
  go_enter Tryd.func9, Tryd.ntmps9
  go_wp2_with fail
  refine (awake_true _ HM.out HT.out).mono ?_
  rintro e w1 ⟨rfl, hb⟩
  have B1 := Lib.hid hb
  have M1 := Lib.hid (HM.out.below B1.out)
  have T1 := Lib.hid (HT.out.below B1.out)
  clear hb
  go_wp2_with fail
  refine (generation_any s n _ M1.out T1.out).mono ?_
  rw [GV]
  rintro e w2 ⟨rfl, hb⟩
  have B2 := Lib.hid (B1.out.trans (hb.mono B1.out.size))
  have M2 := Lib.hid (HM.out.below B2.out)
  have T2 := Lib.hid (HT.out.below B2.out)
  clear hb
  unfold genE
  go_wp2_with fail
  refine (refGen_any s n _).mono ?_
  rw [GV]
  rintro e w3 ⟨rfl, hb⟩
  have B3 := Lib.hid (B2.out.trans (hb.mono B2.out.size))
  have M3 := Lib.hid (HM.out.below B3.out)
  clear hb
  unfold genE
  go_wp2_with fail
  refine (splitName_any s _ M3.out (by omega)).mono ?_
  rw [SV]
  rintro e w4 ⟨rfl, hb⟩
  have B4 := Lib.hid (B3.out.trans (hb.mono B3.out.size))
  have M4 := Lib.hid (HM.out.below B4.out)
  clear hb
  unfold splitE
  go_wp2_with fail
  refine (refSplit_any s _ (by omega)).mono ?_
  rw [SV]
  rintro e w5 ⟨rfl, hb⟩
  have B5 := Lib.hid (B4.out.trans (hb.mono B4.out.size))
  have M5 := Lib.hid (HM.out.below B5.out)
  clear hb
  unfold splitE
  go_wp2_with fail
  refine (valid_any s _ M5.out).mono ?_
  rw [V1]
  rintro e w6 ⟨rfl, hb⟩
  have B6 := Lib.hid (B5.out.trans (hb.mono B5.out.size))
  have M6 := Lib.hid (HM.out.below B6.out)
  clear hb
  go_wp2_with fail
  refine (refValid_any s _).mono ?_
  rw [V1]
  rintro e w7 ⟨rfl, hb⟩
  have B7 := Lib.hid (B6.out.trans (hb.mono B6.out.size))
  have M7 := Lib.hid (HM.out.below B7.out)
  clear hb
  go_wp2_with fail
  refine (isGroup_any s _ M7.out).mono ?_
  rw [V2]
  rintro e w8 ⟨rfl, hb⟩
  have B8 := Lib.hid (B7.out.trans (hb.mono B7.out.size))
  have M8 := Lib.hid (HM.out.below B8.out)
  clear hb
  go_wp2_with fail
  refine (refGroup_any s _).mono ?_
  rw [V2]
  rintro e w9 ⟨rfl, hb⟩
  have B9 := Lib.hid (B8.out.trans (hb.mono B8.out.size))
  have M9 := Lib.hid (HM.out.below B9.out)
  clear hb
  go_wp2_with fail
  refine (pattern_any s _ M9.out).mono ?_
  rw [V3]
  rintro e w10 ⟨rfl, hb⟩
  have B10 := Lib.hid (B9.out.trans (hb.mono B9.out.size))
  have M10 := Lib.hid (HM.out.below B10.out)
  clear hb
  go_wp2_with fail
  refine (refPattern_any s _).mono ?_
  rw [V3]
  rintro e w11 ⟨rfl, hb⟩
  have B11 := Lib.hid (B10.out.trans (hb.mono B10.out.size))
  have M11 := Lib.hid (HM.out.below B11.out)
  clear hb
  go_wp2_with fail
  refine (qualifiers_any s _ M11.out).mono ?_
  rintro e w12 ⟨v, rfl, hb, ⟨h0, _⟩ | ⟨_, B, _, hB, rfl, ht⟩⟩
  · exact absurd h0 hq
  have TX := Lib.hid ht
  rw [HN.out]
  have B12 := Lib.hid (B11.out.trans (hb.mono B11.out.size))
  have M12 := Lib.hid (HM.out.below B12.out)
  clear hb ht
  go_wp2_with fail
  refine (refQuals_any s _).mono ?_
  rintro e w13 ⟨v, rfl, hb, ⟨h0, _⟩ | ⟨_, B', c', _, hB', _, rfl, ht⟩⟩
  · exact absurd h0 hq
  have TX2 := Lib.hid (TX.out.below hb)
  have TX' := Lib.hid ht
  rw [HN.out]
  have B13 := Lib.hid (B12.out.trans (hb.mono B12.out.size))
  have M13 := Lib.hid (HM.out.below B13.out)
  clear hb ht
  go_wp2_with fail
  refine (texts_same (qualsB s) N B N B' c' _ HN.out hN2 TX2.out TX'.out).mono ?_
  rintro e w14 ⟨rfl, q, hq'⟩
  have B14 := Lib.hid (show Below w.heap.size w w14 by rw [hq']; exact below_drewN B13.out q)
  have M14 := Lib.hid (HM.out.below B14.out)
  clear hq'
  go_wp2_with fail
  refine (first_any n s _ M14.out).mono ?_
  rw [V4]
  rintro e w15 ⟨rfl, hb⟩
  have B15 := Lib.hid (B14.out.trans (hb.mono B14.out.size))
  have M15 := Lib.hid (HM.out.below B15.out)
  clear hb
  go_wp2_with fail
  refine (refFirst_any n s _).mono ?_
  rw [V4]
  rintro e w16 ⟨rfl, hb⟩
  have B16 := Lib.hid (B15.out.trans (hb.mono B15.out.size))
  have M16 := Lib.hid (HM.out.below B16.out)
  clear hb
  go_wp2_with fail
  go_ret
  exact ⟨rfl, B16.out⟩
/-- The law's walk. -/
theorem forms_walk (s : ByteArray) (n : Int) (w : World) (hm : MaxLen w) (ht : Tab w) :
    Calls Tryd.prog 9 #[.string s, .int .i64 n] w fun e w' => e = .returned (.bool true) ∧ Below w.heap.size w w' := by
  by_cases hz : 60 < s.size
  · exact forms_long s n w hm ht hz
  have hz := Nat.le_of_not_lt hz
  by_cases hq : qualsB s = []
  · exact forms_nil s n w hm ht hz hq
  · exact forms_some s n w hm ht hz hq
end Go.Proofs.YtkoaeldlflncpaaDoor
