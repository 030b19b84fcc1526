/-
  The contract of the reference's Parse: the same answers as the program's.
-/
import Derived.Test.YtodlkjdmhfcpkaaDoorParseA
namespace Go.Proofs.YtodlkjdmhfcpkaaDoor
open Go.RowKit Go.PlainAid

theorem refParse_size (s : ByteArray) (w : World) (hs : s.size ≠ 10) :
    Calls Tryd.prog 16 #[.string s] w fun e w' => ParseOut s e ∧ Below w.heap.size w w' := by
  have hsz : ((s.size : Int) == 10) = false := by simp; omega
  have fin : ParseOut s (.returned (.tuple #[.int .i64 0, .int .i64 3])) := Or.inr (Or.inr ⟨fun t => hs t.1, rfl⟩)
  have FIN := Lib.hid fin
  clear fin hs
  go_enter Tryd.func16, Tryd.ntmps16
  go_wp2_with fail
  go_ret2
  exact ⟨FIN.out, Below.refl _ _⟩
set_option maxHeartbeats 2000000 in
theorem refParse_ten (s : ByteArray) (w : World) (hs : s.size = 10) :
    Calls Tryd.prog 16 #[.string s] w fun e w' => ParseOut s e ∧ Below w.heap.size w w' := by
  have HT := Lib.hid hs
  have hsz : (s.size : Int) = 10 := by omega
  have hb := get_bt s
  go_enter Tryd.func16, Tryd.ntmps16
  go_wp2_with fail
  go_loopw [5, 6] (fun p i wr => ∃ k : Nat, k ≤ 10 ∧ i = .int .i64 k ∧ p = .int .i64 (pt k) ∧ ParseAt s w wr k) (fun _ i _ => 10 - (intOf i).toNat)
  case atStart => exact ⟨0, by omega, rfl, rfl, fun j hj => by omega, (Three.new w 3).same fun j => by simp [vals], (Below.refl _ _).alloc (Nat.le_refl _) _⟩
  case round =>
    obtain ⟨k, hk, rfl, rfl, hat⟩ := hrel
    have HA := Lib.hid hat
    clear hat
    by_cases hlt : k < 10
    · have hltN : k < s.size := by omega
      by_cases h47 : k = 4 ∨ k = 7
      · have H47 := Lib.hid h47
        by_cases hd : okAt s k = true
        · have bd : (bt s k != 45) = false := by simp [ok_dash h47 hd]
          have HD := Lib.hid hd
          clear hd
          have hp := pt_lt k
          rcases h47 with h47 | h47
          · have b4 : ((k : Int) == 4) = true := by simp; omega
            clear h47
            go_wp2_with fail
            go_roundw
            case rel => exact ⟨k + 1, by omega, by go_num, by rw [pt_dash H47.out]; go_num, HA.out.dash H47.out HD.out⟩
            case measure => simp [intOf]; omega
          · have b4 : ((k : Int) == 4) = false := by simp; omega
            have b7 : ((k : Int) == 7) = true := by simp; omega
            clear h47
            go_wp2_with fail
            go_roundw
            case rel => exact ⟨k + 1, by omega, by go_num, by rw [pt_dash H47.out]; go_num, HA.out.dash H47.out HD.out⟩
            case measure => simp [intOf]; omega
        · have hd := eq_false_of_ne_true hd
          have bd : (bt s k != 45) = true := by simp [ok_dash_no h47 hd]
          have HD := Lib.hid hd
          clear hd
          have FIN := Lib.hid (show ParseOut s (.returned (.tuple #[.int .i64 0, .int .i64 3])) from Or.inr (Or.inr ⟨not_text_of hlt HD.out, rfl⟩))
          rcases h47 with h47 | h47
          · have b4 : ((k : Int) == 4) = true := by simp; omega
            clear h47
            go_wp2_with fail
            go_ret2
            exact ⟨FIN.out, HA.out.2.2.trans ⟨rfl, rfl, rfl, Nat.le_refl _, fun _ _ => rfl⟩⟩
          · have b4 : ((k : Int) == 4) = false := by simp; omega
            have b7 : ((k : Int) == 7) = true := by simp; omega
            clear h47
            go_wp2_with fail
            go_ret2
            exact ⟨FIN.out, HA.out.2.2.trans ⟨rfl, rfl, rfl, Nat.le_refl _, fun _ _ => rfl⟩⟩
      · have b4 : ((k : Int) == 4) = false := by simp; omega
        have b7 : ((k : Int) == 7) = false := by simp; omega
        by_cases hd : okAt s k = true
        · have hd1 : 48 ≤ bt s k := (ok_digit (by omega) (by omega) hd).1
          have hd2 : bt s k ≤ 57 := (ok_digit (by omega) (by omega) hd).2
          have hp := pt_lt k
          obtain ⟨hv0, hv1⟩ := vals_le HA.out.1 (by omega) (pt k)
          have hc := HA.out.2.1.c _ hp
          have hf := HA.out.2.1.f _ hp
          have HD := Lib.hid hd
          clear hd
          go_wp2_with fail
          go_region
          go_wp2_with fail
          go_roundw
          case rel => exact ⟨k + 1, by omega, by go_num, by rw [pt_digit (by omega) (by omega)], HA.out.digit (by omega) (by omega) HD.out⟩
          case measure => simp [intOf]; omega
        · have hd := eq_false_of_ne_true hd
          have hd' := ok_digit_no (by omega) (by omega) hd
          have FIN := Lib.hid (show ParseOut s (.returned (.tuple #[.int .i64 0, .int .i64 3])) from Or.inr (Or.inr ⟨not_text_of hlt hd, rfl⟩))
          clear hd
          rcases hd' with hd | hd
          · go_wp2_with fail
            go_ret2
            exact ⟨FIN.out, HA.out.2.2.trans ⟨rfl, rfl, rfl, Nat.le_refl _, fun _ _ => rfl⟩⟩
          · have hd' : 48 ≤ bt s k := by omega
            go_wp2_with fail
            go_ret2
            exact ⟨FIN.out, HA.out.2.2.trans ⟨rfl, rfl, rfl, Nat.le_refl _, fun _ _ => rfl⟩⟩
    · obtain rfl : k = 10 := by omega
      have c0 := HA.out.2.1.c 0 (by omega)
      have c1 := HA.out.2.1.c 1 (by omega)
      have c2 := HA.out.2.1.c 2 (by omega)
      have T : isText s := ⟨HT.out, HA.out.1⟩
      by_cases hd : IsDate (vals s 10 0) (vals s 10 1) (vals s 10 2)
      · have FIN := Lib.hid (show ParseOut s _ from Or.inl ⟨T, hd, rfl⟩)
        have HD := Lib.hid hd
        clear hd T
        go_wp2_with fail
        go_quiet ((go_at_call 14; refine Calls.quiet_of_same ((refDay_yes _ _ _ _ HD.out).mono fun _ _ h => ⟨h.1, h.2.symm⟩)))
        go_wp2_with fail
        go_ret2

        exact ⟨FIN.out, HA.out.2.2.trans ⟨rfl, rfl, rfl, Nat.le_refl _, fun _ _ => rfl⟩⟩
      · have FIN := Lib.hid (show ParseOut s _ from Or.inr (Or.inl ⟨T, hd, rfl⟩))
        have HD := Lib.hid hd
        clear hd T
        go_wp2_with fail
        go_quiet ((go_at_call 14; refine Calls.quiet_of_same ((refDay_no _ _ _ _ HD.out).mono fun _ _ h => ⟨h.1, h.2.symm⟩)))
        go_wp2_with fail
        go_ret2
        exact ⟨FIN.out, HA.out.2.2.trans ⟨rfl, rfl, rfl, Nat.le_refl _, fun _ _ => rfl⟩⟩
theorem refParse_any (s : ByteArray) (w : World) :
    Calls Tryd.prog 16 #[.string s] w fun e w' => ParseOut s e ∧ Below w.heap.size w w' := by
  by_cases hs : s.size = 10
  · exact refParse_ten s w hs
  · exact refParse_size s w hs
end Go.Proofs.YtodlkjdmhfcpkaaDoor
