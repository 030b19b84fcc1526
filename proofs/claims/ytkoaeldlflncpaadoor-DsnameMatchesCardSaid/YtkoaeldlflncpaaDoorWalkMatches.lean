/-
  The walk of the law DsnameMatches: it returns true for every three texts.
-/
import Derived.Test.YtkoaeldlflncpaaDoorRefMatch2
import Derived.Test.YtkoaeldlflncpaaDoorRefOrder
import Derived.Test.YtkoaeldlflncpaaDoorAwake
namespace Go.Proofs.YtkoaeldlflncpaaDoor
open Go.RowKit Go.PlainAid

theorem matches_long1 (p q s : ByteArray) (w : World) (hm : MaxLen w) (ht : Tab w) (h1 : 60 < p.size) :
    Calls Tryd.prog 5 #[.string p, .string q, .string s] w fun e w' => e = .returned (.bool true) ∧ Below w.heap.size w w' := by
  have HM := Lib.hid hm
  have HT := Lib.hid ht
  clear hm ht
  have hzp : decide ((60 : Int) < (p.size : Int)) = true := decide_eq_true (by omega)
  go_enter Tryd.func5, Tryd.ntmps5
  go_wp2_with fail
  refine (awake_true _ HM.out HT.out).mono ?_
  rintro e w1 ⟨rfl, hb⟩
  have B1 := Lib.hid hb
  have M1 := Lib.hid (HM.out.below B1.out)
  have T1 := Lib.hid (HT.out.below B1.out)
  clear hb
  go_wp2_with fail
  go_ret
  exact ⟨rfl, B1.out⟩
theorem matches_long2 (p q s : ByteArray) (w : World) (hm : MaxLen w) (ht : Tab w) (h1 : p.size ≤ 60) (h2 : 60 < q.size) :
    Calls Tryd.prog 5 #[.string p, .string q, .string s] w fun e w' => e = .returned (.bool true) ∧ Below w.heap.size w w' := by
  have HM := Lib.hid hm
  have HT := Lib.hid ht
  clear hm ht
  have hzp : decide ((60 : Int) < (p.size : Int)) = false := decide_eq_false (by omega)
  have hzq : decide ((60 : Int) < (q.size : Int)) = true := decide_eq_true (by omega)
  go_enter Tryd.func5, Tryd.ntmps5
  go_wp2_with fail
  refine (awake_true _ HM.out HT.out).mono ?_
  rintro e w1 ⟨rfl, hb⟩
  have B1 := Lib.hid hb
  have M1 := Lib.hid (HM.out.below B1.out)
  have T1 := Lib.hid (HT.out.below B1.out)
  clear hb
  go_wp2_with fail
  go_ret
  exact ⟨rfl, B1.out⟩
theorem matches_long3 (p q s : ByteArray) (w : World) (hm : MaxLen w) (ht : Tab w) (h1 : p.size ≤ 60) (h2 : q.size ≤ 60) (h3 : 60 < s.size) :
    Calls Tryd.prog 5 #[.string p, .string q, .string s] w fun e w' => e = .returned (.bool true) ∧ Below w.heap.size w w' := by
  have HM := Lib.hid hm
  have HT := Lib.hid ht
  clear hm ht
  have hzp : decide ((60 : Int) < (p.size : Int)) = false := decide_eq_false (by omega)
  have hzq : decide ((60 : Int) < (q.size : Int)) = false := decide_eq_false (by omega)
  have hzs : decide ((60 : Int) < (s.size : Int)) = true := decide_eq_true (by omega)
  go_enter Tryd.func5, Tryd.ntmps5
  go_wp2_with fail
  refine (awake_true _ HM.out HT.out).mono ?_
  rintro e w1 ⟨rfl, hb⟩
  have B1 := Lib.hid hb
  have M1 := Lib.hid (HM.out.below B1.out)
  have T1 := Lib.hid (HT.out.below B1.out)
  clear hb
  go_wp2_with fail
  go_ret
  exact ⟨rfl, B1.out⟩
theorem matches_main (p q s : ByteArray) (w : World) (hm : MaxLen w) (ht : Tab w) (h1 : p.size ≤ 60) (h2 : q.size ≤ 60) (h3 : s.size ≤ 60) :
    Calls Tryd.prog 5 #[.string p, .string q, .string s] w fun e w' => e = .returned (.bool true) ∧ Below w.heap.size w w' := by
  have HM := Lib.hid hm
  have HT := Lib.hid ht
  clear hm ht
  have hzp : decide ((60 : Int) < (p.size : Int)) = false := decide_eq_false (by omega)
  have hzq : decide ((60 : Int) < (q.size : Int)) = false := decide_eq_false (by omega)
  have hzs : decide ((60 : Int) < (s.size : Int)) = false := decide_eq_false (by omega)
  obtain ⟨v, V⟩ : ∃ v, matchB p s = v := ⟨_, rfl⟩
  obtain ⟨o, O⟩ : ∃ o, orderV p q = o := ⟨_, rfl⟩
  go_enter Tryd.func5, Tryd.ntmps5
  go_wp2_with fail
  refine (awake_true _ HM.out HT.out).mono ?_
  rintro e w1 ⟨rfl, hb⟩
  have B1 := Lib.hid hb
  have M1 := Lib.hid (HM.out.below B1.out)
  have T1 := Lib.hid (HT.out.below B1.out)
  clear hb
  go_wp2_with fail
  refine (match_any p s _ M1.out).mono ?_
  rw [V]
  rintro e w2 ⟨rfl, hb⟩
  have B2 := Lib.hid (B1.out.trans (hb.mono B1.out.size))
  have M2 := Lib.hid (HM.out.below B2.out)
  clear hb
  go_wp2_with fail
  refine (refMatch_any p s _).mono ?_
  rw [V]
  rintro e w3 ⟨rfl, hb⟩
  have B3 := Lib.hid (B2.out.trans (hb.mono B2.out.size))
  have M3 := Lib.hid (HM.out.below B3.out)
  clear hb
  go_wp2_with fail
  refine (order_any p q _ M3.out).mono ?_
  rw [O]
  rintro e w4 ⟨rfl, hb⟩
  have B4 := Lib.hid (B3.out.trans (hb.mono B3.out.size))
  have M4 := Lib.hid (HM.out.below B4.out)
  clear hb
  go_wp2_with fail
  refine (refOrder_any p q _).mono ?_
  rw [O]
  rintro e w5 ⟨rfl, hb⟩
  have B5 := Lib.hid (B4.out.trans (hb.mono B4.out.size))
  have M5 := Lib.hid (HM.out.below B5.out)
  clear hb
  go_wp2_with fail
  go_ret
  exact ⟨rfl, B5.out⟩
/-- The law's walk. -/
theorem matches_walk (p q s : ByteArray) (w : World) (hm : MaxLen w) (ht : Tab w) :
    Calls Tryd.prog 5 #[.string p, .string q, .string s] w fun e w' => e = .returned (.bool true) ∧ Below w.heap.size w w' := by
  by_cases h1 : 60 < p.size
  · exact matches_long1 p q s w hm ht h1
  by_cases h2 : 60 < q.size
  · exact matches_long2 p q s w hm ht (by omega) h2
  by_cases h3 : 60 < s.size
  · exact matches_long3 p q s w hm ht (by omega) (by omega) h3
  exact matches_main p q s w hm ht (by omega) (by omega) (by omega)
end Go.Proofs.YtkoaeldlflncpaaDoor
