/-
  The walk of the law DsnameOrders: it returns true for every three texts.
-/
import Derived.Test.YtkoaeldlflncpaaDoorSorted
import Derived.Test.YtkoaeldlflncpaaDoorAwake
namespace Go.Proofs.YtkoaeldlflncpaaDoor
open Go.RowKit Go.PlainAid

theorem orders_no1 (a b c : ByteArray) (w : World) (hm : MaxLen w) (ht : Tab w) (h1 : patB a = false) :
    Calls Tryd.prog 7 #[.string a, .string b, .string c] w fun e w' => e = .returned (.bool true) ∧ Below w.heap.size w w' := by
  have HM := Lib.hid hm
  have HT := Lib.hid ht
  clear hm ht
  have O : orderV a b = 0 := order_nopat fun h => by rw [h1] at h; exact absurd h.1 (by decide)
  go_enter Tryd.func7, Tryd.ntmps7
  go_wp2_with fail
  refine (awake_true _ HM.out HT.out).mono ?_
  rintro e w1 ⟨rfl, hb⟩
  have B1 := Lib.hid hb
  have M1 := Lib.hid (HM.out.below B1.out)
  have T1 := Lib.hid (HT.out.below B1.out)
  clear hb
  go_wp2_with fail
  refine (pattern_any a _ M1.out).mono ?_
  rw [h1]
  rintro e w2 ⟨rfl, hb⟩
  have B2 := Lib.hid (B1.out.trans (hb.mono B1.out.size))
  have M2 := Lib.hid (HM.out.below B2.out)
  clear hb
  go_wp2_with fail
  refine (pattern_any a _ M2.out).mono ?_
  rw [h1]
  rintro e w3 ⟨rfl, hb⟩
  have B3 := Lib.hid (B2.out.trans (hb.mono B2.out.size))
  have M3 := Lib.hid (HM.out.below B3.out)
  clear hb
  go_wp2_with fail
  refine (order_any a b _ M3.out).mono ?_
  rw [O]
  rintro e w4 ⟨rfl, hb⟩
  have B4 := Lib.hid (B3.out.trans (hb.mono B3.out.size))
  have M4 := Lib.hid (HM.out.below B4.out)
  clear hb
  go_wp2_with fail
  go_ret
  exact ⟨rfl, B4.out⟩
theorem orders_no2 (a b c : ByteArray) (w : World) (hm : MaxLen w) (ht : Tab w) (h1 : patB a = true) (h2 : patB b = false) :
    Calls Tryd.prog 7 #[.string a, .string b, .string c] w fun e w' => e = .returned (.bool true) ∧ Below w.heap.size w w' := by
  have HM := Lib.hid hm
  have HT := Lib.hid ht
  clear hm ht
  have O : orderV a b = 0 := order_nopat fun h => by rw [h2] at h; exact absurd h.2 (by decide)
  go_enter Tryd.func7, Tryd.ntmps7
  go_wp2_with fail
  refine (awake_true _ HM.out HT.out).mono ?_
  rintro e w1 ⟨rfl, hb⟩
  have B1 := Lib.hid hb
  have M1 := Lib.hid (HM.out.below B1.out)
  have T1 := Lib.hid (HT.out.below B1.out)
  clear hb
  go_wp2_with fail
  refine (pattern_any a _ M1.out).mono ?_
  rw [h1]
  rintro e w2 ⟨rfl, hb⟩
  have B2 := Lib.hid (B1.out.trans (hb.mono B1.out.size))
  have M2 := Lib.hid (HM.out.below B2.out)
  clear hb
  go_wp2_with fail
  refine (pattern_any b _ M2.out).mono ?_
  rw [h2]
  rintro e w3 ⟨rfl, hb⟩
  have B3 := Lib.hid (B2.out.trans (hb.mono B2.out.size))
  have M3 := Lib.hid (HM.out.below B3.out)
  clear hb
  go_wp2_with fail
  refine (pattern_any a _ M3.out).mono ?_
  rw [h1]
  rintro e w4 ⟨rfl, hb⟩
  have B4 := Lib.hid (B3.out.trans (hb.mono B3.out.size))
  have M4 := Lib.hid (HM.out.below B4.out)
  clear hb
  go_wp2_with fail
  refine (pattern_any b _ M4.out).mono ?_
  rw [h2]
  rintro e w5 ⟨rfl, hb⟩
  have B5 := Lib.hid (B4.out.trans (hb.mono B4.out.size))
  have M5 := Lib.hid (HM.out.below B5.out)
  clear hb
  go_wp2_with fail
  refine (order_any a b _ M5.out).mono ?_
  rw [O]
  rintro e w6 ⟨rfl, hb⟩
  have B6 := Lib.hid (B5.out.trans (hb.mono B5.out.size))
  have M6 := Lib.hid (HM.out.below B6.out)
  clear hb
  go_wp2_with fail
  go_ret
  exact ⟨rfl, B6.out⟩
theorem orders_no3 (a b c : ByteArray) (w : World) (hm : MaxLen w) (ht : Tab w) (h1 : patB a = true) (h2 : patB b = true) (h3 : patB c = false) :
    Calls Tryd.prog 7 #[.string a, .string b, .string c] w fun e w' => e = .returned (.bool true) ∧ Below w.heap.size w w' := by
  have HM := Lib.hid hm
  have HT := Lib.hid ht
  clear hm ht
  go_enter Tryd.func7, Tryd.ntmps7
  go_wp2_with fail
  refine (awake_true _ HM.out HT.out).mono ?_
  rintro e w1 ⟨rfl, hb⟩
  have B1 := Lib.hid hb
  have M1 := Lib.hid (HM.out.below B1.out)
  have T1 := Lib.hid (HT.out.below B1.out)
  clear hb
  go_wp2_with fail
  refine (pattern_any a _ M1.out).mono ?_
  rw [h1]
  rintro e w2 ⟨rfl, hb⟩
  have B2 := Lib.hid (B1.out.trans (hb.mono B1.out.size))
  have M2 := Lib.hid (HM.out.below B2.out)
  clear hb
  go_wp2_with fail
  refine (pattern_any b _ M2.out).mono ?_
  rw [h2]
  rintro e w3 ⟨rfl, hb⟩
  have B3 := Lib.hid (B2.out.trans (hb.mono B2.out.size))
  have M3 := Lib.hid (HM.out.below B3.out)
  clear hb
  go_wp2_with fail
  refine (pattern_any c _ M3.out).mono ?_
  rw [h3]
  rintro e w4 ⟨rfl, hb⟩
  have B4 := Lib.hid (B3.out.trans (hb.mono B3.out.size))
  have M4 := Lib.hid (HM.out.below B4.out)
  clear hb
  go_wp2_with fail
  refine (pattern_any a _ M4.out).mono ?_
  rw [h1]
  rintro e w5 ⟨rfl, hb⟩
  have B5 := Lib.hid (B4.out.trans (hb.mono B4.out.size))
  have M5 := Lib.hid (HM.out.below B5.out)
  clear hb
  go_wp2_with fail
  refine (pattern_any b _ M5.out).mono ?_
  rw [h2]
  rintro e w6 ⟨rfl, hb⟩
  have B6 := Lib.hid (B5.out.trans (hb.mono B5.out.size))
  have M6 := Lib.hid (HM.out.below B6.out)
  clear hb
  go_wp2_with fail
  go_ret
  exact ⟨rfl, B6.out⟩
set_option maxHeartbeats 1000000 in
theorem orders_same (a c : ByteArray) (w : World) (hm : MaxLen w) (ht : Tab w) (h1 : patB a = true) (h3 : patB c = true) :
    Calls Tryd.prog 7 #[.string a, .string a, .string c] w fun e w' => e = .returned (.bool true) ∧ Below w.heap.size w w' := by
  have HM := Lib.hid hm
  have HT := Lib.hid ht
  clear hm ht
  have O := order_self h1
  obtain ⟨y, hy⟩ : ∃ y, orderV a c = y := ⟨_, rfl⟩
  by_cases hle : y ≤ 0
  · have hle1 : decide (y ≤ 0) = true := by simpa using hle
    have hle2 : decide (0 < y) = false := by simp; omega
    clear hle
    go_enter Tryd.func7, Tryd.ntmps7
    go_wp2_with fail
    refine (awake_true _ HM.out HT.out).mono ?_
    rintro e w1 ⟨rfl, hb⟩
    have B1 := Lib.hid hb
    have M1 := Lib.hid (HM.out.below B1.out)
    have T1 := Lib.hid (HT.out.below B1.out)
    clear hb
    go_wp2_with fail
    refine (pattern_any a _ M1.out).mono ?_
    rw [h1]
    rintro e w2 ⟨rfl, hb⟩
    have B2 := Lib.hid (B1.out.trans (hb.mono B1.out.size))
    have M2 := Lib.hid (HM.out.below B2.out)
    clear hb
    go_wp2_with fail
    refine (pattern_any a _ M2.out).mono ?_
    rw [h1]
    rintro e w3 ⟨rfl, hb⟩
    have B3 := Lib.hid (B2.out.trans (hb.mono B2.out.size))
    have M3 := Lib.hid (HM.out.below B3.out)
    clear hb
    go_wp2_with fail
    refine (pattern_any c _ M3.out).mono ?_
    rw [h3]
    rintro e w4 ⟨rfl, hb⟩
    have B4 := Lib.hid (B3.out.trans (hb.mono B3.out.size))
    have M4 := Lib.hid (HM.out.below B4.out)
    clear hb
    go_wp2_with fail
    refine (order_any a a _ M4.out).mono ?_
    rw [O]
    rintro e w5 ⟨rfl, hb⟩
    have B5 := Lib.hid (B4.out.trans (hb.mono B4.out.size))
    have M5 := Lib.hid (HM.out.below B5.out)
    clear hb
    go_wp2_with fail
    refine (order_any a c _ M5.out).mono ?_
    rw [hy]
    rintro e w6 ⟨rfl, hb⟩
    have B6 := Lib.hid (B5.out.trans (hb.mono B5.out.size))
    have M6 := Lib.hid (HM.out.below B6.out)
    clear hb
    go_wp2_with fail
    refine (order_any a c _ M6.out).mono ?_
    rw [hy]
    rintro e w7 ⟨rfl, hb⟩
    have B7 := Lib.hid (B6.out.trans (hb.mono B6.out.size))
    have M7 := Lib.hid (HM.out.below B7.out)
    clear hb
    go_wp2_with fail
    refine (order_any a a _ M7.out).mono ?_
    rw [O]
    rintro e w8 ⟨rfl, hb⟩
    have B8 := Lib.hid (B7.out.trans (hb.mono B7.out.size))
    have M8 := Lib.hid (HM.out.below B8.out)
    clear hb
    go_wp2_with fail
    go_ret
    exact ⟨rfl, B8.out⟩
  · have hle1 : decide (y ≤ 0) = false := by simpa using hle
    have hle2 : decide (0 < y) = true := by simp; omega
    clear hle
    go_enter Tryd.func7, Tryd.ntmps7
    go_wp2_with fail
    refine (awake_true _ HM.out HT.out).mono ?_
    rintro e w1 ⟨rfl, hb⟩
    have B1 := Lib.hid hb
    have M1 := Lib.hid (HM.out.below B1.out)
    have T1 := Lib.hid (HT.out.below B1.out)
    clear hb
    go_wp2_with fail
    refine (pattern_any a _ M1.out).mono ?_
    rw [h1]
    rintro e w2 ⟨rfl, hb⟩
    have B2 := Lib.hid (B1.out.trans (hb.mono B1.out.size))
    have M2 := Lib.hid (HM.out.below B2.out)
    clear hb
    go_wp2_with fail
    refine (pattern_any a _ M2.out).mono ?_
    rw [h1]
    rintro e w3 ⟨rfl, hb⟩
    have B3 := Lib.hid (B2.out.trans (hb.mono B2.out.size))
    have M3 := Lib.hid (HM.out.below B3.out)
    clear hb
    go_wp2_with fail
    refine (pattern_any c _ M3.out).mono ?_
    rw [h3]
    rintro e w4 ⟨rfl, hb⟩
    have B4 := Lib.hid (B3.out.trans (hb.mono B3.out.size))
    have M4 := Lib.hid (HM.out.below B4.out)
    clear hb
    go_wp2_with fail
    refine (order_any a a _ M4.out).mono ?_
    rw [O]
    rintro e w5 ⟨rfl, hb⟩
    have B5 := Lib.hid (B4.out.trans (hb.mono B4.out.size))
    have M5 := Lib.hid (HM.out.below B5.out)
    clear hb
    go_wp2_with fail
    refine (order_any a c _ M5.out).mono ?_
    rw [hy]
    rintro e w6 ⟨rfl, hb⟩
    have B6 := Lib.hid (B5.out.trans (hb.mono B5.out.size))
    have M6 := Lib.hid (HM.out.below B6.out)
    clear hb
    go_wp2_with fail
    refine (order_any a c _ M6.out).mono ?_
    rw [hy]
    rintro e w7 ⟨rfl, hb⟩
    have B7 := Lib.hid (B6.out.trans (hb.mono B6.out.size))
    have M7 := Lib.hid (HM.out.below B7.out)
    clear hb
    go_wp2_with fail
    refine (order_any a a _ M7.out).mono ?_
    rw [O]
    rintro e w8 ⟨rfl, hb⟩
    have B8 := Lib.hid (B7.out.trans (hb.mono B7.out.size))
    have M8 := Lib.hid (HM.out.below B8.out)
    clear hb
    go_wp2_with fail
    go_ret
    exact ⟨rfl, B8.out⟩
set_option maxHeartbeats 2000000 in
theorem orders_less (a b c : ByteArray) (w : World) (hm : MaxLen w) (ht : Tab w) (h1 : patB a = true) (h2 : patB b = true) (h3 : patB c = true) (hne : a ≠ b) (hx : orderV a b = -1) (y z : Int) (hy : orderV b c = y) (hz : orderV a c = z) (hle : y ≤ 0 → z ≤ 0) :
    Calls Tryd.prog 7 #[.string a, .string b, .string c] w fun e w' => e = .returned (.bool true) ∧ Below w.heap.size w w' := by
  have HM := Lib.hid hm
  have HT := Lib.hid ht
  clear hm ht
  have F : orderV b a = 1 := by rw [order_flip h1 h2, hx]; rfl
  have hne' : (a.toList == b.toList) = false := by simpa [ByteArray.toList_eq] using fun e : bs a = bs b => hne (bs_inj e)
  by_cases hyle : y ≤ 0
  · have hy1 : decide (y ≤ 0) = true := by simpa using hyle
    have hz1 : decide (0 < z) = false := by have := hle hyle; simp; omega
    clear hle hyle
    cases hmt : matchB b a
    all_goals
      go_enter Tryd.func7, Tryd.ntmps7
      go_wp2_with fail
      refine (awake_true _ HM.out HT.out).mono ?_
      rintro e w1 ⟨rfl, hb⟩
      have B1 := Lib.hid hb
      have M1 := Lib.hid (HM.out.below B1.out)
      have T1 := Lib.hid (HT.out.below B1.out)
      clear hb
      go_wp2_with fail
      refine (pattern_any a _ M1.out).mono ?_
      rw [h1]
      rintro e w2 ⟨rfl, hb⟩
      have B2 := Lib.hid (B1.out.trans (hb.mono B1.out.size))
      have M2 := Lib.hid (HM.out.below B2.out)
      clear hb
      go_wp2_with fail
      refine (pattern_any b _ M2.out).mono ?_
      rw [h2]
      rintro e w3 ⟨rfl, hb⟩
      have B3 := Lib.hid (B2.out.trans (hb.mono B2.out.size))
      have M3 := Lib.hid (HM.out.below B3.out)
      clear hb
      go_wp2_with fail
      refine (pattern_any c _ M3.out).mono ?_
      rw [h3]
      rintro e w4 ⟨rfl, hb⟩
      have B4 := Lib.hid (B3.out.trans (hb.mono B3.out.size))
      have M4 := Lib.hid (HM.out.below B4.out)
      clear hb
      go_wp2_with fail
      refine (order_any a b _ M4.out).mono ?_
      rw [hx]
      rintro e w5 ⟨rfl, hb⟩
      have B5 := Lib.hid (B4.out.trans (hb.mono B4.out.size))
      have M5 := Lib.hid (HM.out.below B5.out)
      clear hb
      go_wp2_with fail
      refine (order_any b c _ M5.out).mono ?_
      rw [hy]
      rintro e w6 ⟨rfl, hb⟩
      have B6 := Lib.hid (B5.out.trans (hb.mono B5.out.size))
      have M6 := Lib.hid (HM.out.below B6.out)
      clear hb
      go_wp2_with fail
      refine (order_any a c _ M6.out).mono ?_
      rw [hz]
      rintro e w7 ⟨rfl, hb⟩
      have B7 := Lib.hid (B6.out.trans (hb.mono B6.out.size))
      have M7 := Lib.hid (HM.out.below B7.out)
      clear hb
      go_wp2_with fail
      refine (order_any b a _ M7.out).mono ?_
      rw [F]
      rintro e w8 ⟨rfl, hb⟩
      have B8 := Lib.hid (B7.out.trans (hb.mono B7.out.size))
      have M8 := Lib.hid (HM.out.below B8.out)
      clear hb
      go_wp2_with fail
      refine (match_any b a _ M8.out).mono ?_
      rw [hmt]
      rintro e w9 ⟨rfl, hb⟩
      have B9 := Lib.hid (B8.out.trans (hb.mono B8.out.size))
      have M9 := Lib.hid (HM.out.below B9.out)
      clear hb
      go_wp2_with fail
      go_ret
      exact ⟨rfl, B9.out⟩
  · have hy1 : decide (y ≤ 0) = false := by simpa using hyle
    clear hle hyle
    cases hmt : matchB b a
    all_goals
      go_enter Tryd.func7, Tryd.ntmps7
      go_wp2_with fail
      refine (awake_true _ HM.out HT.out).mono ?_
      rintro e w1 ⟨rfl, hb⟩
      have B1 := Lib.hid hb
      have M1 := Lib.hid (HM.out.below B1.out)
      have T1 := Lib.hid (HT.out.below B1.out)
      clear hb
      go_wp2_with fail
      refine (pattern_any a _ M1.out).mono ?_
      rw [h1]
      rintro e w2 ⟨rfl, hb⟩
      have B2 := Lib.hid (B1.out.trans (hb.mono B1.out.size))
      have M2 := Lib.hid (HM.out.below B2.out)
      clear hb
      go_wp2_with fail
      refine (pattern_any b _ M2.out).mono ?_
      rw [h2]
      rintro e w3 ⟨rfl, hb⟩
      have B3 := Lib.hid (B2.out.trans (hb.mono B2.out.size))
      have M3 := Lib.hid (HM.out.below B3.out)
      clear hb
      go_wp2_with fail
      refine (pattern_any c _ M3.out).mono ?_
      rw [h3]
      rintro e w4 ⟨rfl, hb⟩
      have B4 := Lib.hid (B3.out.trans (hb.mono B3.out.size))
      have M4 := Lib.hid (HM.out.below B4.out)
      clear hb
      go_wp2_with fail
      refine (order_any a b _ M4.out).mono ?_
      rw [hx]
      rintro e w5 ⟨rfl, hb⟩
      have B5 := Lib.hid (B4.out.trans (hb.mono B4.out.size))
      have M5 := Lib.hid (HM.out.below B5.out)
      clear hb
      go_wp2_with fail
      refine (order_any b c _ M5.out).mono ?_
      rw [hy]
      rintro e w6 ⟨rfl, hb⟩
      have B6 := Lib.hid (B5.out.trans (hb.mono B5.out.size))
      have M6 := Lib.hid (HM.out.below B6.out)
      clear hb
      go_wp2_with fail
      refine (order_any a c _ M6.out).mono ?_
      rw [hz]
      rintro e w7 ⟨rfl, hb⟩
      have B7 := Lib.hid (B6.out.trans (hb.mono B6.out.size))
      have M7 := Lib.hid (HM.out.below B7.out)
      clear hb
      go_wp2_with fail
      refine (order_any b a _ M7.out).mono ?_
      rw [F]
      rintro e w8 ⟨rfl, hb⟩
      have B8 := Lib.hid (B7.out.trans (hb.mono B7.out.size))
      have M8 := Lib.hid (HM.out.below B8.out)
      clear hb
      go_wp2_with fail
      refine (match_any b a _ M8.out).mono ?_
      rw [hmt]
      rintro e w9 ⟨rfl, hb⟩
      have B9 := Lib.hid (B8.out.trans (hb.mono B8.out.size))
      have M9 := Lib.hid (HM.out.below B9.out)
      clear hb
      go_wp2_with fail
      go_ret
      exact ⟨rfl, B9.out⟩
set_option maxHeartbeats 2000000 in
theorem orders_more (a b c : ByteArray) (w : World) (hm : MaxLen w) (ht : Tab w) (h1 : patB a = true) (h2 : patB b = true) (h3 : patB c = true) (hne : a ≠ b) (hx : orderV a b = 1) (hmt : matchB b a = false) (y z : Int) (hy : orderV b c = y) (hz : orderV a c = z) :
    Calls Tryd.prog 7 #[.string a, .string b, .string c] w fun e w' => e = .returned (.bool true) ∧ Below w.heap.size w w' := by
  have HM := Lib.hid hm
  have HT := Lib.hid ht
  clear hm ht
  have F : orderV b a = -1 := by rw [order_flip h1 h2, hx]
  have hne' : (a.toList == b.toList) = false := by simpa [ByteArray.toList_eq] using fun e : bs a = bs b => hne (bs_inj e)
  go_enter Tryd.func7, Tryd.ntmps7
  go_wp2_with fail
  refine (awake_true _ HM.out HT.out).mono ?_
  rintro e w1 ⟨rfl, hb⟩
  have B1 := Lib.hid hb
  have M1 := Lib.hid (HM.out.below B1.out)
  have T1 := Lib.hid (HT.out.below B1.out)
  clear hb
  go_wp2_with fail
  refine (pattern_any a _ M1.out).mono ?_
  rw [h1]
  rintro e w2 ⟨rfl, hb⟩
  have B2 := Lib.hid (B1.out.trans (hb.mono B1.out.size))
  have M2 := Lib.hid (HM.out.below B2.out)
  clear hb
  go_wp2_with fail
  refine (pattern_any b _ M2.out).mono ?_
  rw [h2]
  rintro e w3 ⟨rfl, hb⟩
  have B3 := Lib.hid (B2.out.trans (hb.mono B2.out.size))
  have M3 := Lib.hid (HM.out.below B3.out)
  clear hb
  go_wp2_with fail
  refine (pattern_any c _ M3.out).mono ?_
  rw [h3]
  rintro e w4 ⟨rfl, hb⟩
  have B4 := Lib.hid (B3.out.trans (hb.mono B3.out.size))
  have M4 := Lib.hid (HM.out.below B4.out)
  clear hb
  go_wp2_with fail
  refine (order_any a b _ M4.out).mono ?_
  rw [hx]
  rintro e w5 ⟨rfl, hb⟩
  have B5 := Lib.hid (B4.out.trans (hb.mono B4.out.size))
  have M5 := Lib.hid (HM.out.below B5.out)
  clear hb
  go_wp2_with fail
  refine (order_any b c _ M5.out).mono ?_
  rw [hy]
  rintro e w6 ⟨rfl, hb⟩
  have B6 := Lib.hid (B5.out.trans (hb.mono B5.out.size))
  have M6 := Lib.hid (HM.out.below B6.out)
  clear hb
  go_wp2_with fail
  refine (order_any a c _ M6.out).mono ?_
  rw [hz]
  rintro e w7 ⟨rfl, hb⟩
  have B7 := Lib.hid (B6.out.trans (hb.mono B6.out.size))
  have M7 := Lib.hid (HM.out.below B7.out)
  clear hb
  go_wp2_with fail
  refine (order_any b a _ M7.out).mono ?_
  rw [F]
  rintro e w8 ⟨rfl, hb⟩
  have B8 := Lib.hid (B7.out.trans (hb.mono B7.out.size))
  have M8 := Lib.hid (HM.out.below B8.out)
  clear hb
  go_wp2_with fail
  refine (match_any b a _ M8.out).mono ?_
  rw [hmt]
  rintro e w9 ⟨rfl, hb⟩
  have B9 := Lib.hid (B8.out.trans (hb.mono B8.out.size))
  have M9 := Lib.hid (HM.out.below B9.out)
  clear hb
  go_wp2_with fail
  go_ret
  exact ⟨rfl, B9.out⟩
/-- The law's walk. -/
theorem orders_walk (a b c : ByteArray) (w : World) (hm : MaxLen w) (ht : Tab w) :
    Calls Tryd.prog 7 #[.string a, .string b, .string c] w fun e w' => e = .returned (.bool true) ∧ Below w.heap.size w w' := by
  cases h1 : patB a with
  | false => exact orders_no1 a b c w hm ht h1
  | true =>
    cases h2 : patB b with
    | false => exact orders_no2 a b c w hm ht h1 h2
    | true =>
      cases h3 : patB c with
      | false => exact orders_no3 a b c w hm ht h1 h2 h3
      | true =>
        by_cases hne : a = b
        · subst hne; exact orders_same a c w hm ht h1 h3
        · have hr := order_range h1 h2
          have h0 : orderV a b ≠ 0 := fun h => hne (order_same h1 h2 h)
          by_cases hx : orderV a b = -1
          · exact orders_less a b c w hm ht h1 h2 h3 hne hx _ _ rfl rfl (order_trans h1 h2 h3 (by omega))
          · cases hmt : matchB b a with
            | true => exact absurd (order_name h1 h2 hmt hne) hx
            | false => exact orders_more a b c w hm ht h1 h2 h3 hne (by omega) hmt _ _ rfl rfl
end Go.Proofs.YtkoaeldlflncpaaDoor
