/-
  The contract of Parse: of a text that has the form of a day's, what Day answers for its three numbers; else zero and the error.
-/
import Derived.Test.YtodlkjdmhfcpkaaDoorDayC
import Derived.Test.YtodlkjdmhfcpkaaDoorPlainParse
import Derived.RegionTactic
import Derived.BigRegion
namespace Go.Proofs.YtodlkjdmhfcpkaaDoor
open Go.RowKit Go.PlainAid

/-- Three cells of a block. -/
structure Three (w : World) (B : Nat) (v : Nat → Int) : Prop where
  c : ∀ j, j < 3 → w.cell? ⟨B, j, none⟩ = some (.int .i64 (v j))
  f : ∀ j, j < 3 → w.frozen? ⟨B, j, none⟩ = false
theorem Three.put {w : World} {B : Nat} {v : Nat → Int} (h : Three w B v) {p : Nat} (hp : p < 3) (x : Int) : Three (w.setCell ⟨B, p, none⟩ (.int .i64 x)).drew B (fun j => if j = p then x else v j) := by
  refine ⟨fun j hj => ?_, fun j hj => ?_⟩
  · rw [World.cell?_drew]
    by_cases e : j = p
    · subst e; rw [if_pos rfl]; exact World.cell?_setCell_same _ _ _ (h.c j hj)
    · rw [if_neg e, World.cell?_setCell_other _ _ _ _ (by intro h; cases h; exact e rfl)]; exact h.c j hj
  · rw [World.frozen?_drew, World.frozen?_setCell]; exact h.f j hj
theorem Three.same {w : World} {B : Nat} {v v' : Nat → Int} (h : Three w B v) (e : ∀ j, v' j = v j) : Three w B v' :=
  ⟨fun j hj => by rw [e]; exact h.c j hj, h.f⟩
theorem Three.new (w : World) (t : TypeId) : Three (w.alloc (.cells #[.int .i64 0, .int .i64 0, .int .i64 0] t)) w.heap.size (fun _ => 0) := by
  refine ⟨fun j hj => ?_, fun j hj => ?_⟩ <;> (have h : j = 0 ∨ j = 1 ∨ j = 2 := by omega) <;> rcases h with rfl | rfl | rfl <;> simp [go_sem]
/-- What Parse answers: of a text of the form of a day's, what Day does. -/
def ParseOut (s : ByteArray) (e : Ending) : Prop :=
  (isText s ∧ IsDate (vals s 10 0) (vals s 10 1) (vals s 10 2) ∧ e = .returned (.tuple #[.int .i64 (Cal.num (vals s 10 0) (vals s 10 1) (vals s 10 2)), .int .i64 0])) ∨
  (isText s ∧ ¬ IsDate (vals s 10 0) (vals s 10 1) (vals s 10 2) ∧ e = .returned (.tuple #[.int .i64 0, .int .i64 2])) ∨
  (¬ isText s ∧ e = .returned (.tuple #[.int .i64 0, .int .i64 3]))
/-- Where Parse stands behind k bytes. -/
def ParseAt (s : ByteArray) (w wr : World) (k : Nat) : Prop := okUpto s k ∧ Three wr w.heap.size (vals s k) ∧ Below w.heap.size w wr
theorem ParseAt.digit {s : ByteArray} {w wr : World} {k : Nat} (h : ParseAt s w wr k) (h4 : k ≠ 4) (h7 : k ≠ 7) (hd : okAt s k = true) :
    ParseAt s w (wr.setCell ⟨w.heap.size, pt k, none⟩ (.int .i64 (10 * vals s k (pt k) + (bt s k - 48)))).drew (k + 1) := by
  refine ⟨okUpto_succ h.1 hd, (h.2.1.put (pt_lt k) _).same fun j => ?_, (h.2.2.setCell (Nat.le_refl _) _).drew⟩
  rw [vals_digit h4 h7]; split
  · rename_i e; rw [e]
  · rfl
theorem ParseAt.dash {s : ByteArray} {w wr : World} {k : Nat} (h : ParseAt s w wr k) (h47 : k = 4 ∨ k = 7) (hd : okAt s k = true) : ParseAt s w wr (k + 1) :=
  ⟨okUpto_succ h.1 hd, h.2.1.same fun j => vals_dash h47 j, h.2.2⟩

theorem parse_size (s : ByteArray) (w : World) (hs : s.size ≠ 10) :
    Calls Tryd.prog 15 #[.string s] w fun e w' => ParseOut s e ∧ Below w.heap.size w w' := by
  have hsz : ((s.size : Int) == 10) = false := by simp; omega
  have fin : ParseOut s (.returned (.tuple #[.int .i64 0, .int .i64 3])) := Or.inr (Or.inr ⟨fun t => hs t.1, rfl⟩)
  have FIN := Lib.hid fin
  clear fin hs
  go_enter Tryd.func15, Tryd.ntmps15
  go_wp2_with fail
  go_ret2
  exact ⟨FIN.out, Below.refl _ _⟩
set_option maxHeartbeats 2000000 in
theorem parse_ten (s : ByteArray) (w : World) (hs : s.size = 10) :
    Calls Tryd.prog 15 #[.string s] w fun e w' => ParseOut s e ∧ Below w.heap.size w w' := by
  have HT := Lib.hid hs
  have hsz : (s.size : Int) = 10 := by omega
  have hb := get_bt s
  go_enter Tryd.func15, Tryd.ntmps15
  go_wp2_with fail
  go_loopw [5, 12] (fun p i wr => ∃ k : Nat, k ≤ 10 ∧ i = .int .i64 k ∧ p = .int .i64 (pt k) ∧ ParseAt s w wr k) (fun _ i _ => 10 - (intOf i).toNat)
  case atStart => exact ⟨0, by omega, rfl, rfl, fun j hj => by omega, (Three.new w 54).same fun j => by simp [vals], (Below.refl _ _).alloc (Nat.le_refl _) _⟩
  case round =>
    obtain ⟨k, hk, rfl, rfl, hat⟩ := hrel
    have HA := Lib.hid hat
    clear hat
    by_cases hlt : k < 10
    · have hltN : k < s.size := by omega
      by_cases h47 : k = 4 ∨ k = 7
      · have H47 := Lib.hid h47
        by_cases hd : okAt s k = true
        · have bd : (bt s k != 45) = false := by simp [ok_dash h47 hd]
          have HD := Lib.hid hd
          clear hd
          have hp := pt_lt k
          rcases h47 with h47 | h47
          · have b4 : ((k : Int) == 4) = true := by simp; omega
            clear h47
            go_wp2_with fail
            go_roundw
            case rel => exact ⟨k + 1, by omega, by go_num, by rw [pt_dash H47.out]; go_num, HA.out.dash H47.out HD.out⟩
            case measure => simp [intOf]; omega
          · have b4 : ((k : Int) == 4) = false := by simp; omega
            have b7 : ((k : Int) == 7) = true := by simp; omega
            clear h47
            go_wp2_with fail
            go_roundw
            case rel => exact ⟨k + 1, by omega, by go_num, by rw [pt_dash H47.out]; go_num, HA.out.dash H47.out HD.out⟩
            case measure => simp [intOf]; omega
        · have hd := eq_false_of_ne_true hd
          have bd : (bt s k != 45) = true := by simp [ok_dash_no h47 hd]
          have HD := Lib.hid hd
          clear hd
          have FIN := Lib.hid (show ParseOut s (.returned (.tuple #[.int .i64 0, .int .i64 3])) from Or.inr (Or.inr ⟨not_text_of hlt HD.out, rfl⟩))
          rcases h47 with h47 | h47
          · have b4 : ((k : Int) == 4) = true := by simp; omega
            clear h47
            go_wp2_with fail
            go_ret2
            exact ⟨FIN.out, HA.out.2.2⟩
          · have b4 : ((k : Int) == 4) = false := by simp; omega
            have b7 : ((k : Int) == 7) = true := by simp; omega
            clear h47
            go_wp2_with fail
            go_ret2
            exact ⟨FIN.out, HA.out.2.2⟩
      · have b4 : ((k : Int) == 4) = false := by simp; omega
        have b7 : ((k : Int) == 7) = false := by simp; omega
        by_cases hd : okAt s k = true
        · have hd1 : 48 ≤ bt s k := (ok_digit (by omega) (by omega) hd).1
          have hd2 : bt s k ≤ 57 := (ok_digit (by omega) (by omega) hd).2
          have hp := pt_lt k
          obtain ⟨hv0, hv1⟩ := vals_le HA.out.1 (by omega) (pt k)
          have hc := HA.out.2.1.c _ hp
          have hf := HA.out.2.1.f _ hp
          have HD := Lib.hid hd
          clear hd
          go_wp2_with fail
          go_region
          go_wp2_with fail
          go_roundw
          case rel => exact ⟨k + 1, by omega, by go_num, by rw [pt_digit (by omega) (by omega)], HA.out.digit (by omega) (by omega) HD.out⟩
          case measure => simp [intOf]; omega
        · have hd := eq_false_of_ne_true hd
          have hd' := ok_digit_no (by omega) (by omega) hd
          have FIN := Lib.hid (show ParseOut s (.returned (.tuple #[.int .i64 0, .int .i64 3])) from Or.inr (Or.inr ⟨not_text_of hlt hd, rfl⟩))
          clear hd
          rcases hd' with hd | hd
          · go_wp2_with fail
            go_ret2
            exact ⟨FIN.out, HA.out.2.2⟩
          · have hd' : 48 ≤ bt s k := by omega
            go_wp2_with fail
            go_ret2
            exact ⟨FIN.out, HA.out.2.2⟩
    · obtain rfl : k = 10 := by omega
      have c0 := HA.out.2.1.c 0 (by omega)
      have c1 := HA.out.2.1.c 1 (by omega)
      have c2 := HA.out.2.1.c 2 (by omega)
      have T : isText s := ⟨HT.out, HA.out.1⟩
      by_cases hd : IsDate (vals s 10 0) (vals s 10 1) (vals s 10 2)
      · have FIN := Lib.hid (show ParseOut s _ from Or.inl ⟨T, hd, rfl⟩)
        have HD := Lib.hid hd
        clear hd T
        go_wp2_with (go_at_call 13; refine (day_yes _ _ _ _ HD.out).mono ?_; rintro e w' ⟨rfl, hbb⟩)
        go_ret2
        exact ⟨FIN.out, HA.out.2.2.trans (hbb.mono HA.out.2.2.size)⟩
      · have FIN := Lib.hid (show ParseOut s _ from Or.inr (Or.inl ⟨T, hd, rfl⟩))
        have HD := Lib.hid hd
        clear hd T
        go_wp2_with (go_at_call 13; refine (day_no _ _ _ _ HD.out).mono ?_; rintro e w' ⟨rfl, hbb⟩)
        go_ret2
        exact ⟨FIN.out, HA.out.2.2.trans (hbb.mono HA.out.2.2.size)⟩
theorem parse_any (s : ByteArray) (w : World) :
    Calls Tryd.prog 15 #[.string s] w fun e w' => ParseOut s e ∧ Below w.heap.size w w' := by
  by_cases hs : s.size = 10
  · exact parse_ten s w hs
  · exact parse_size s w hs
end Go.Proofs.YtodlkjdmhfcpkaaDoor
