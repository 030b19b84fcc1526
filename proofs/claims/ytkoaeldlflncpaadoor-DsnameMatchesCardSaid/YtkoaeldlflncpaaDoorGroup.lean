/-
  The contracts of IsGroup, and of slices.ContainsFunc where it calls it.
-/
import Derived.Test.YtkoaeldlflncpaaDoorNumber
namespace Go.Proofs.YtkoaeldlflncpaaDoor
open Go.RowKit Go.PlainAid

/-- A generation's qualifier, with a number. -/
def genQ (s : ByteArray) : Bool := decide (0 < numB s)
theorem group1_any (s : ByteArray) (w : World) : Calls Tryd.prog 63 #[.string s] w fun e w' => e = .returned (.bool (genQ s)) ∧ w = w' := by
  go_enter Tryd.func63, Tryd.ntmps63
  go_wp2_with (go_at_call 64; refine (number_any s _).mono ?_; rintro e w' ⟨rfl, rfl⟩)
  go_ret
  exact ⟨rfl, rfl⟩
set_option maxHeartbeats 1000000 in
theorem indexFunc_any (B N : Nat) (xs : List ByteArray) (w : World) (hx : TextsAt w B 0 xs) (hN : xs.length = N) (hz : N ≤ 4294967281) :
    Calls Tryd.prog 87 #[.slice (some ⟨B, 0, none⟩) N N, .func (.func 63) #[] #[]] w fun e w' => ∃ r : Int, e = .returned (.int .i64 r) ∧ decide (r ≥ 0) = xs.any genQ ∧ w = w' := by
  have HX := Lib.hid hx
  have HN := Lib.hid hN
  clear hx hN
  go_enter Tryd.func87, Tryd.ntmps87
  go_wp2_with fail
  go_loopw [8] (fun i wr => ∃ j : Nat, j ≤ N ∧ i = .int .i64 j ∧ wr = w ∧ ∀ (n : Nat) x, n < j → xs[n]? = some x → genQ x = false) (fun i _ => N - (intOf i).toNat)
  case atStart => exact ⟨0, by omega, rfl, rfl, fun n x hn => absurd hn (by omega)⟩
  case round =>
    obtain ⟨j, hj, rfl, rfl, hp⟩ := hrel
    have HP := Lib.hid hp
    clear hp
    by_cases hlt : j < N
    · obtain ⟨x, hx⟩ : ∃ x, xs[j]? = some x := ⟨_, List.getElem?_eq_getElem (by rw [HN.out]; exact hlt)⟩
      have hcell := HX.out j x hx
      rw [Nat.zero_add] at hcell
      have HJ := Lib.hid hx
      clear hx
      cases hd : genQ x with
      | false =>
        go_wp2_with (go_at_call 63; refine (group1_any x _).mono ?_; rw [hd]; rintro e w' ⟨rfl, rfl⟩)
        go_roundw
        case rel => exact ⟨j + 1, by omega, by go_num, trivial, fun n y hn hy => by
          by_cases e : n = j
          · subst e; rw [HJ.out] at hy; cases hy; exact hd
          · exact HP.out n y (by omega) hy⟩
        case measure => simp [intOf]; omega
      | true =>
        have R : xs.any genQ = true := List.any_eq_true.2 ⟨x, List.mem_of_getElem? HJ.out, hd⟩
        go_wp2_with (go_at_call 63; refine (group1_any x _).mono ?_; rw [hd]; rintro e w' ⟨rfl, rfl⟩)
        go_ret
        exact ⟨_, rfl, by rw [R]; simp, rfl⟩
    · have R : xs.any genQ = false := List.any_eq_false.2 fun x hx => by
        obtain ⟨n, hn, rfl⟩ := List.mem_iff_getElem.1 hx
        have := HP.out n _ (by have := HN.out; omega) (List.getElem?_eq_getElem hn)
        simp [this]
      go_wp2_with fail
      go_ret
      exact ⟨_, rfl, by rw [R]; rfl, rfl⟩
theorem containsFunc_any (B N : Nat) (xs : List ByteArray) (w : World) (hx : TextsAt w B 0 xs) (hN : xs.length = N) (hz : N ≤ 4294967281) :
    Calls Tryd.prog 62 #[.slice (some ⟨B, 0, none⟩) N N, .func (.func 63) #[] #[]] w fun e w' => e = .returned (.bool (xs.any genQ)) ∧ w = w' := by
  have C := Lib.hid (indexFunc_any B N xs w hx hN hz)
  clear hx
  go_enter Tryd.func62, Tryd.ntmps62
  go_wp2_with (go_at_call 87; refine C.out.mono ?_; rintro e w' ⟨r, rfl, hr, rfl⟩)
  go_ret
  exact ⟨by rw [← hr]; rfl, rfl⟩
/-- The name of a generation group. -/
def groupB (s : ByteArray) : Bool := decide (s.size ≤ 22) && validB s && !(parts s).any genQ
theorem isGroup_any (s : ByteArray) (w : World) (hm : MaxLen w) : Calls Tryd.prog 23 #[.string s] w fun e w' => e = .returned (.bool (groupB s)) ∧ Below w.heap.size w w' := by
  have HM := Lib.hid hm
  clear hm
  by_cases hz : s.size ≤ 22
  · have hz' : (s.size : Int) ≤ 22 := by omega
    cases h : validB s with
    | false =>
      have R : groupB s = false := by simp [groupB, h]
      go_enter Tryd.func23, Tryd.ntmps23
      go_wp2_with (go_at_call 12; refine (valid_any s w HM.out).mono ?_; rw [h]; rintro e w' ⟨rfl, hb⟩)
      go_ret
      exact ⟨by rw [R]; rfl, hb⟩
    | true =>
      have R : groupB s = !(parts s).any genQ := by simp [groupB, h, hz]
      obtain ⟨N, hNe⟩ : ∃ N, (parts s).length = N := ⟨_, rfl⟩
      have hN : N ≤ 4294967281 := by
        have := Lib.countB_le dot (by decide) s.size s (Nat.le_refl _)
        have := parts_length s
        omega
      have SP : ∀ w, MaxLen w → Calls Tryd.prog 21 #[.string s, .string dot] w fun e w' => e = .returned (.slice (some ⟨w.heap.size, 0, none⟩) N N) ∧ Below w.heap.size w w' ∧ TextsAt w' w.heap.size 0 (parts s) := fun w hm => by
        rw [← hNe]; exact split_any s w hm (by omega)
      have SP := Lib.hid SP
      have NE := Lib.hid hNe
      clear hNe
      go_enter Tryd.func23, Tryd.ntmps23
      go_wp2_with (first | (go_at_call 12; refine (valid_any s w HM.out).mono ?_; rw [h]; rintro e w' ⟨rfl, hb⟩) | (go_at_call 21; refine (SP.out _ (HM.out.below hb)).mono ?_; rintro e w2 ⟨rfl, hb2, ht⟩; have HT := Lib.hid ht; clear ht) | (go_at_call 62; refine (containsFunc_any _ N (parts s) _ HT.out NE.out hN).mono ?_; rintro e w' ⟨rfl, rfl⟩))
      go_ret
      exact ⟨by rw [R]; rfl, hb.trans (hb2.mono hb.size)⟩
  · have R : groupB s = false := by simp [groupB, hz]
    have hz' : decide ((s.size : Int) ≤ 22) = false := by simp; omega
    go_enter Tryd.func23, Tryd.ntmps23
    go_wp2_with fail
    go_ret
    exact ⟨by rw [R]; rfl, Below.refl _ _⟩
end Go.Proofs.YtkoaeldlflncpaaDoor
