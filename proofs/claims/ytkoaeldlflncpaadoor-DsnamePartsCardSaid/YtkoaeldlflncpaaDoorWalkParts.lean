/-
  The walk of the law DsnameParts: it returns true for every two texts.
-/
import Derived.Test.YtkoaeldlflncpaaDoorJoint
import Derived.Test.YtkoaeldlflncpaaDoorAwake
namespace Go.Proofs.YtkoaeldlflncpaaDoor
open Go.RowKit Go.PlainAid

theorem parts_long1 (a b : ByteArray) (w : World) (hm : MaxLen w) (ht : Tab w) (ha : 31 < a.size) :
    Calls Tryd.prog 4 #[.string a, .string b] w fun e w' => e = .returned (.bool true) ∧ Below w.heap.size w w' := by
  have HM := Lib.hid hm
  have HT := Lib.hid ht
  clear hm ht
  have ha' : decide ((31 : Int) < (a.size : Int)) = true := by simp; omega
  go_enter Tryd.func4, Tryd.ntmps4
  go_wp2_with fail
  refine (awake_true _ HM.out HT.out).mono ?_
  rintro e w1 ⟨rfl, hb⟩
  have B1 := Lib.hid hb
  have M1 := Lib.hid (HM.out.below B1.out)
  have T1 := Lib.hid (HT.out.below B1.out)
  clear hb
  go_wp2_with fail
  go_ret
  exact ⟨rfl, B1.out⟩
theorem parts_long2 (a b : ByteArray) (w : World) (hm : MaxLen w) (ht : Tab w) (ha : a.size ≤ 31) (hbz : 31 < b.size) :
    Calls Tryd.prog 4 #[.string a, .string b] w fun e w' => e = .returned (.bool true) ∧ Below w.heap.size w w' := by
  have HM := Lib.hid hm
  have HT := Lib.hid ht
  clear hm ht
  have ha' : decide ((31 : Int) < (a.size : Int)) = false := by simp; omega
  have hb' : decide ((31 : Int) < (b.size : Int)) = true := by simp; omega
  go_enter Tryd.func4, Tryd.ntmps4
  go_wp2_with fail
  refine (awake_true _ HM.out HT.out).mono ?_
  rintro e w1 ⟨rfl, hb⟩
  have B1 := Lib.hid hb
  have M1 := Lib.hid (HM.out.below B1.out)
  have T1 := Lib.hid (HT.out.below B1.out)
  clear hb
  go_wp2_with fail
  go_ret
  exact ⟨rfl, B1.out⟩
theorem parts_no1 (a b : ByteArray) (w : World) (hm : MaxLen w) (ht : Tab w) (ha : a.size ≤ 31) (hbz : b.size ≤ 31) (h1 : validB a = false) :
    Calls Tryd.prog 4 #[.string a, .string b] w fun e w' => e = .returned (.bool true) ∧ Below w.heap.size w w' := by
  have HM := Lib.hid hm
  have HT := Lib.hid ht
  clear hm ht
  have ha' : decide ((31 : Int) < (a.size : Int)) = false := by simp; omega
  have hb' : decide ((31 : Int) < (b.size : Int)) = false := by simp; omega
  have L : validB (a ++ dots ++ b) = false := jointB_not fun h => by rw [h1] at h; exact absurd h.1 (by decide)
  go_enter Tryd.func4, Tryd.ntmps4
  go_wp2_with fail
  refine (awake_true _ HM.out HT.out).mono ?_
  rintro e w1 ⟨rfl, hb⟩
  have B1 := Lib.hid hb
  have M1 := Lib.hid (HM.out.below B1.out)
  have T1 := Lib.hid (HT.out.below B1.out)
  clear hb
  go_wp2_with fail
  refine (valid_any a _ M1.out).mono ?_
  rw [h1]
  rintro e w2 ⟨rfl, hb⟩
  have B2 := Lib.hid (B1.out.trans (hb.mono B1.out.size))
  have M2 := Lib.hid (HM.out.below B2.out)
  clear hb
  go_wp2_with fail
  refine (valid_any (a ++ dots ++ b) _ M2.out).mono ?_
  rw [L]
  rintro e w3 ⟨rfl, hb⟩
  have B3 := Lib.hid (B2.out.trans (hb.mono B2.out.size))
  have M3 := Lib.hid (HM.out.below B3.out)
  clear hb
  go_wp2_with fail
  go_ret
  exact ⟨rfl, B3.out⟩
theorem parts_no2 (a b : ByteArray) (w : World) (hm : MaxLen w) (ht : Tab w) (ha : a.size ≤ 31) (hbz : b.size ≤ 31) (h1 : validB a = true) (h2 : validB b = false) :
    Calls Tryd.prog 4 #[.string a, .string b] w fun e w' => e = .returned (.bool true) ∧ Below w.heap.size w w' := by
  have HM := Lib.hid hm
  have HT := Lib.hid ht
  clear hm ht
  have ha' : decide ((31 : Int) < (a.size : Int)) = false := by simp; omega
  have hb' : decide ((31 : Int) < (b.size : Int)) = false := by simp; omega
  have L : validB (a ++ dots ++ b) = false := jointB_not fun h => by rw [h2] at h; exact absurd h.2 (by decide)
  go_enter Tryd.func4, Tryd.ntmps4
  go_wp2_with fail
  refine (awake_true _ HM.out HT.out).mono ?_
  rintro e w1 ⟨rfl, hb⟩
  have B1 := Lib.hid hb
  have M1 := Lib.hid (HM.out.below B1.out)
  have T1 := Lib.hid (HT.out.below B1.out)
  clear hb
  go_wp2_with fail
  refine (valid_any a _ M1.out).mono ?_
  rw [h1]
  rintro e w2 ⟨rfl, hb⟩
  have B2 := Lib.hid (B1.out.trans (hb.mono B1.out.size))
  have M2 := Lib.hid (HM.out.below B2.out)
  clear hb
  go_wp2_with fail
  refine (valid_any b _ M2.out).mono ?_
  rw [h2]
  rintro e w3 ⟨rfl, hb⟩
  have B3 := Lib.hid (B2.out.trans (hb.mono B2.out.size))
  have M3 := Lib.hid (HM.out.below B3.out)
  clear hb
  go_wp2_with fail
  refine (valid_any (a ++ dots ++ b) _ M3.out).mono ?_
  rw [L]
  rintro e w4 ⟨rfl, hb⟩
  have B4 := Lib.hid (B3.out.trans (hb.mono B3.out.size))
  have M4 := Lib.hid (HM.out.below B4.out)
  clear hb
  go_wp2_with fail
  go_ret
  exact ⟨rfl, B4.out⟩
set_option maxHeartbeats 1000000 in
theorem parts_yes1 (a b : ByteArray) (w : World) (hm : MaxLen w) (ht : Tab w) (ha : a.size ≤ 31) (hbz : b.size ≤ 31) (h1 : validB a = true) (h2 : validB b = true) (hc : a.size + 1 + b.size ≤ 31) :
    Calls Tryd.prog 4 #[.string a, .string b] w fun e w' => e = .returned (.bool true) ∧ Below w.heap.size w w' := by
  have HM := Lib.hid hm
  have HT := Lib.hid ht
  clear hm ht
  have ha' : decide ((31 : Int) < (a.size : Int)) = false := by simp; omega
  have hb' : decide ((31 : Int) < (b.size : Int)) = false := by simp; omega
  have L : validB (a ++ dots ++ b) = true := by rw [jointB h1 h2]; simpa using hc
  have L2 := holeB a b
  have L3 := lowerV h1
  have A := Lib.hid (asciiB h1)
  have L4 := endB a
  have L5 := frontB a
  have hc' : decide ((a.size : Int) + 1 + (b.size : Int) ≤ 31) = true := by simp; omega
  go_enter Tryd.func4, Tryd.ntmps4
  go_wp2_with fail
  refine (awake_true _ HM.out HT.out).mono ?_
  rintro e w1 ⟨rfl, hb⟩
  have B1 := Lib.hid hb
  have M1 := Lib.hid (HM.out.below B1.out)
  have T1 := Lib.hid (HT.out.below B1.out)
  clear hb
  go_wp2_with fail
  refine (valid_any a _ M1.out).mono ?_
  rw [h1]
  rintro e w2 ⟨rfl, hb⟩
  have B2 := Lib.hid (B1.out.trans (hb.mono B1.out.size))
  have M2 := Lib.hid (HM.out.below B2.out)
  clear hb
  go_wp2_with fail
  refine (valid_any b _ M2.out).mono ?_
  rw [h2]
  rintro e w3 ⟨rfl, hb⟩
  have B3 := Lib.hid (B2.out.trans (hb.mono B2.out.size))
  have M3 := Lib.hid (HM.out.below B3.out)
  clear hb
  go_wp2_with fail
  refine (valid_any (a ++ dots ++ b) _ M3.out).mono ?_
  rw [L]
  rintro e w4 ⟨rfl, hb⟩
  have B4 := Lib.hid (B3.out.trans (hb.mono B3.out.size))
  have M4 := Lib.hid (HM.out.below B4.out)
  clear hb
  go_wp2_with fail
  refine (valid_any (a ++ dots ++ dots ++ b) _ M4.out).mono ?_
  rw [L2]
  rintro e w5 ⟨rfl, hb⟩
  have B5 := Lib.hid (B4.out.trans (hb.mono B4.out.size))
  have M5 := Lib.hid (HM.out.below B5.out)
  clear hb
  go_wp2_with fail
  refine (Tryd.strings_ToLower_ascii a _ (by omega) A.out).mono ?_
  rintro e w6 ⟨rfl, hb⟩
  have B6 := Lib.hid (B5.out.trans (hb.mono B5.out.size))
  have M6 := Lib.hid (HM.out.below B6.out)
  clear hb
  go_wp2_with fail
  refine (valid_any _ _ M6.out).mono ?_
  rw [L3]
  rintro e w7 ⟨rfl, hb⟩
  have B7 := Lib.hid (B6.out.trans (hb.mono B6.out.size))
  have M7 := Lib.hid (HM.out.below B7.out)
  clear hb
  go_wp2_with fail
  refine (valid_any (a ++ dots) _ M7.out).mono ?_
  rw [L4]
  rintro e w8 ⟨rfl, hb⟩
  have B8 := Lib.hid (B7.out.trans (hb.mono B7.out.size))
  have M8 := Lib.hid (HM.out.below B8.out)
  clear hb
  go_wp2_with fail
  refine (valid_any (dots ++ a) _ M8.out).mono ?_
  rw [L5]
  rintro e w9 ⟨rfl, hb⟩
  have B9 := Lib.hid (B8.out.trans (hb.mono B8.out.size))
  have M9 := Lib.hid (HM.out.below B9.out)
  clear hb
  go_wp2_with fail
  go_ret
  exact ⟨rfl, B9.out⟩
set_option maxHeartbeats 1000000 in
theorem parts_yes2 (a b : ByteArray) (w : World) (hm : MaxLen w) (ht : Tab w) (ha : a.size ≤ 31) (hbz : b.size ≤ 31) (h1 : validB a = true) (h2 : validB b = true) (hc : ¬ a.size + 1 + b.size ≤ 31) :
    Calls Tryd.prog 4 #[.string a, .string b] w fun e w' => e = .returned (.bool true) ∧ Below w.heap.size w w' := by
  have HM := Lib.hid hm
  have HT := Lib.hid ht
  clear hm ht
  have ha' : decide ((31 : Int) < (a.size : Int)) = false := by simp; omega
  have hb' : decide ((31 : Int) < (b.size : Int)) = false := by simp; omega
  have L : validB (a ++ dots ++ b) = false := by rw [jointB h1 h2]; simpa using hc
  have L2 := holeB a b
  have L3 := lowerV h1
  have A := Lib.hid (asciiB h1)
  have L4 := endB a
  have L5 := frontB a
  have hc' : decide ((a.size : Int) + 1 + (b.size : Int) ≤ 31) = false := by simp; omega
  go_enter Tryd.func4, Tryd.ntmps4
  go_wp2_with fail
  refine (awake_true _ HM.out HT.out).mono ?_
  rintro e w1 ⟨rfl, hb⟩
  have B1 := Lib.hid hb
  have M1 := Lib.hid (HM.out.below B1.out)
  have T1 := Lib.hid (HT.out.below B1.out)
  clear hb
  go_wp2_with fail
  refine (valid_any a _ M1.out).mono ?_
  rw [h1]
  rintro e w2 ⟨rfl, hb⟩
  have B2 := Lib.hid (B1.out.trans (hb.mono B1.out.size))
  have M2 := Lib.hid (HM.out.below B2.out)
  clear hb
  go_wp2_with fail
  refine (valid_any b _ M2.out).mono ?_
  rw [h2]
  rintro e w3 ⟨rfl, hb⟩
  have B3 := Lib.hid (B2.out.trans (hb.mono B2.out.size))
  have M3 := Lib.hid (HM.out.below B3.out)
  clear hb
  go_wp2_with fail
  refine (valid_any (a ++ dots ++ b) _ M3.out).mono ?_
  rw [L]
  rintro e w4 ⟨rfl, hb⟩
  have B4 := Lib.hid (B3.out.trans (hb.mono B3.out.size))
  have M4 := Lib.hid (HM.out.below B4.out)
  clear hb
  go_wp2_with fail
  refine (valid_any (a ++ dots ++ dots ++ b) _ M4.out).mono ?_
  rw [L2]
  rintro e w5 ⟨rfl, hb⟩
  have B5 := Lib.hid (B4.out.trans (hb.mono B4.out.size))
  have M5 := Lib.hid (HM.out.below B5.out)
  clear hb
  go_wp2_with fail
  refine (Tryd.strings_ToLower_ascii a _ (by omega) A.out).mono ?_
  rintro e w6 ⟨rfl, hb⟩
  have B6 := Lib.hid (B5.out.trans (hb.mono B5.out.size))
  have M6 := Lib.hid (HM.out.below B6.out)
  clear hb
  go_wp2_with fail
  refine (valid_any _ _ M6.out).mono ?_
  rw [L3]
  rintro e w7 ⟨rfl, hb⟩
  have B7 := Lib.hid (B6.out.trans (hb.mono B6.out.size))
  have M7 := Lib.hid (HM.out.below B7.out)
  clear hb
  go_wp2_with fail
  refine (valid_any (a ++ dots) _ M7.out).mono ?_
  rw [L4]
  rintro e w8 ⟨rfl, hb⟩
  have B8 := Lib.hid (B7.out.trans (hb.mono B7.out.size))
  have M8 := Lib.hid (HM.out.below B8.out)
  clear hb
  go_wp2_with fail
  refine (valid_any (dots ++ a) _ M8.out).mono ?_
  rw [L5]
  rintro e w9 ⟨rfl, hb⟩
  have B9 := Lib.hid (B8.out.trans (hb.mono B8.out.size))
  have M9 := Lib.hid (HM.out.below B9.out)
  clear hb
  go_wp2_with fail
  go_ret
  exact ⟨rfl, B9.out⟩
/-- The law's walk. -/
theorem parts_walk (a b : ByteArray) (w : World) (hm : MaxLen w) (ht : Tab w) :
    Calls Tryd.prog 4 #[.string a, .string b] w fun e w' => e = .returned (.bool true) ∧ Below w.heap.size w w' := by
  by_cases ha : 31 < a.size
  · exact parts_long1 a b w hm ht ha
  have ha := Nat.le_of_not_lt ha
  by_cases hb : 31 < b.size
  · exact parts_long2 a b w hm ht ha hb
  have hb := Nat.le_of_not_lt hb
  cases h1 : validB a with
  | false => exact parts_no1 a b w hm ht ha hb h1
  | true =>
    cases h2 : validB b with
    | false => exact parts_no2 a b w hm ht ha hb h1 h2
    | true =>
      by_cases hc : a.size + 1 + b.size ≤ 31
      · exact parts_yes1 a b w hm ht ha hb h1 h2 hc
      · exact parts_yes2 a b w hm ht ha hb h1 h2 hc
end Go.Proofs.YtkoaeldlflncpaaDoor
