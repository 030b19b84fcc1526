/-
  The contracts of number, of package dsname and of the reference.
-/
import Derived.Test.YtkoaeldlflncpaaDoorNames
namespace Go.Proofs.YtkoaeldlflncpaaDoor
open Go.RowKit Go.PlainAid

/-- The number of the digits from byte 1 up to byte k. -/
def dv (s : ByteArray) : Nat → Int
  | 0 => 0
  | k + 1 => if k = 0 then 0 else 10 * dv s k + (bt s k - 48)
theorem dv_one (s : ByteArray) : dv s 1 = 0 := rfl
theorem dv_step {s : ByteArray} {k : Nat} (h : 1 ≤ k) : dv s (k + 1) = 10 * dv s k + (bt s k - 48) := by
  rw [dv, if_neg (by omega)]
theorem dg_le {c : Int} (h : dgB c = true) : 48 ≤ c ∧ c ≤ 57 := by simpa [dgB] using h
/-- Bytes 1 to k - 1 are digits. -/
def Digs (s : ByteArray) (k : Nat) : Prop := ∀ j, 1 ≤ j → j < k → dgB (bt s j) = true
theorem Digs.step {s : ByteArray} {k : Nat} (h : Digs s k) (hd : dgB (bt s k) = true) : Digs s (k + 1) := fun j h1 h2 => by
  by_cases e : j = k
  · rw [e]; exact hd
  · exact h j h1 (by omega)
theorem dv_le {s : ByteArray} {k : Nat} (h : Digs s k) (h1 : 1 ≤ k) (h5 : k ≤ 5) : 0 ≤ dv s k ∧ dv s k ≤ 9999 := by
  have hk : k = 1 ∨ k = 2 ∨ k = 3 ∨ k = 4 ∨ k = 5 := by omega
  have d : ∀ j, 1 ≤ j → j < k → 48 ≤ bt s j ∧ bt s j ≤ 57 := fun j a b => dg_le (h j a b)
  rcases hk with rfl | rfl | rfl | rfl | rfl
  · simp [dv]
  · have := d 1 (by omega) (by omega)
    simp [dv]; omega
  · have := d 1 (by omega) (by omega)
    have := d 2 (by omega) (by omega)
    simp [dv]; omega
  · have := d 1 (by omega) (by omega)
    have := d 2 (by omega) (by omega)
    have := d 3 (by omega) (by omega)
    simp [dv]; omega
  · have := d 1 (by omega) (by omega)
    have := d 2 (by omega) (by omega)
    have := d 3 (by omega) (by omega)
    have := d 4 (by omega) (by omega)
    simp [dv]; omega
/-- The form of a generation's qualifier. -/
def genForm (s : ByteArray) : Bool := decide (s.size = 8) && decide (bt s 0 = 71) && ((s.extract 5 8).toList == [86, 48, 48]) && (dgB (bt s 1) && dgB (bt s 2) && dgB (bt s 3) && dgB (bt s 4))
/-- The number of such a qualifier, or 0. -/
def numB (s : ByteArray) : Int := if genForm s then dv s 5 else 0
theorem form_no {s : ByteArray} (h : genForm s = false) : numB s = 0 := by simp [numB, h]
theorem num_digit {s : ByteArray} {k : Nat} (h1 : 1 ≤ k) (h5 : k < 5) (h : dgB (bt s k) = false) : numB s = 0 := by
  apply form_no
  have hk : k = 1 ∨ k = 2 ∨ k = 3 ∨ k = 4 := by omega
  rcases hk with rfl | rfl | rfl | rfl <;> simp [genForm, h]
theorem num_yes {s : ByteArray} (h8 : s.size = 8) (h0 : bt s 0 = 71) (hv : ((s.extract 5 8).toList == [86, 48, 48]) = true) (hd : Digs s 5) : numB s = dv s 5 := by
  have : genForm s = true := by
    unfold genForm
    rw [hv, hd 1 (by omega) (by omega), hd 2 (by omega) (by omega), hd 3 (by omega) (by omega), hd 4 (by omega) (by omega)]
    simp [h8, h0]
  simp [numB, this]

set_option maxHeartbeats 1000000 in
theorem number_any (s : ByteArray) (w : World) : Calls Tryd.prog 64 #[.string s] w fun e w' => e = .returned (.int .i64 (numB s)) ∧ w = w' := by
  have hbt := get_bt s
  by_cases h8 : s.size = 8
  · have h8' : ((s.size : Int) != 8) = false := by simp; omega
    have hz0 : 0 < s.size := by omega
    by_cases h0 : bt s 0 = 71
    · have h0' : (bt s 0 != 71) = false := by simp [h0]
      cases hv : ((s.extract 5 8).toList == [86, 48, 48]) with
      | true =>
        have HV := Lib.hid hv
        have hle : (5 : Int) ≤ (s.size : Int) := by omega
        go_enter Tryd.func64, Tryd.ntmps64
        go_wp2_with fail
        go_loopw [3, 4] (fun n i wr => ∃ k : Nat, 1 ≤ k ∧ k ≤ 5 ∧ i = .int .i64 k ∧ n = .int .i64 (dv s k) ∧ wr = w ∧ Digs s k) (fun _ i _ => 5 - (intOf i).toNat)
        case atStart => exact ⟨1, by omega, by omega, rfl, rfl, rfl, fun j h1 h2 => absurd h1 (by omega)⟩
        case round =>
          obtain ⟨k, hk1, hk, rfl, rfl, rfl, hg⟩ := hrel
          have HG := Lib.hid hg
          clear hg
          by_cases hlt : k < 5
          · have hlN : k < s.size := by omega
            cases hd : dgB (bt s k) with
            | true =>
              obtain ⟨d0, d1⟩ := dg_le hd
              obtain ⟨v0, v1⟩ := dv_le HG.out hk1 hk
              have HD := Lib.hid hd
              clear hd
              go_wp2_with (go_at_call 70; refine (digit_any _ _).mono ?_; rw [HD.out]; rintro e w' ⟨rfl, rfl⟩)
              go_roundw
              case rel => exact ⟨k + 1, by omega, by omega, by go_num, by rw [dv_step hk1], trivial, HG.out.step HD.out⟩
              case measure => simp [intOf]; omega
            | false =>
              have R := Lib.hid (num_digit hk1 hlt hd)
              have HD := Lib.hid hd
              clear hd
              go_wp2_with (go_at_call 70; refine (digit_any _ _).mono ?_; rw [HD.out]; rintro e w' ⟨rfl, rfl⟩)
              go_ret
              exact ⟨by rw [R.out]; rfl, rfl⟩
          · obtain rfl : k = 5 := by omega
            have R := Lib.hid (num_yes h8 h0 HV.out HG.out)
            go_wp2_with fail
            go_ret
            exact ⟨by rw [R.out]; rfl, rfl⟩
      | false =>
        have R := Lib.hid (form_no (s := s) (by simp only [genForm, hv]; simp))
        have hle : (5 : Int) ≤ (s.size : Int) := by omega
        go_enter Tryd.func64, Tryd.ntmps64
        go_wp2_with fail
        go_ret
        exact ⟨by rw [R.out]; rfl, rfl⟩
    · have R := Lib.hid (form_no (s := s) (by simp [genForm, h0]))
      have h0' : (bt s 0 != 71) = true := by simp [h0]
      go_enter Tryd.func64, Tryd.ntmps64
      go_wp2_with fail
      go_ret
      exact ⟨by rw [R.out]; rfl, rfl⟩
  · have R := Lib.hid (form_no (s := s) (by simp [genForm, h8]))
    have h8' : ((s.size : Int) != 8) = true := by simp; omega
    go_enter Tryd.func64, Tryd.ntmps64
    go_wp2_with fail
    go_ret
    exact ⟨by rw [R.out]; rfl, rfl⟩

set_option maxHeartbeats 1000000 in
theorem refNumber_any (s : ByteArray) (w : World) : Calls Tryd.prog 68 #[.string s] w fun e w' => e = .returned (.int .i64 (numB s)) ∧ w = w' := by
  have hbt := get_bt s
  by_cases h8 : s.size = 8
  · have h8' : ((s.size : Int) != 8) = false := by simp; omega
    have hz0 : 0 < s.size := by omega
    by_cases h0 : bt s 0 = 71
    · have h0' : (bt s 0 != 71) = false := by simp [h0]
      cases hv : ((s.extract 5 8).toList == [86, 48, 48]) with
      | true =>
        have HV := Lib.hid hv
        have hle : (5 : Int) ≤ (s.size : Int) := by omega
        go_enter Tryd.func68, Tryd.ntmps68
        go_wp2_with fail
        go_loopw [3, 4] (fun n i wr => ∃ k : Nat, 1 ≤ k ∧ k ≤ 5 ∧ i = .int .i64 k ∧ n = .int .i64 (dv s k) ∧ wr = w ∧ Digs s k) (fun _ i _ => 5 - (intOf i).toNat)
        case atStart => exact ⟨1, by omega, by omega, rfl, rfl, rfl, fun j h1 h2 => absurd h1 (by omega)⟩
        case round =>
          obtain ⟨k, hk1, hk, rfl, rfl, rfl, hg⟩ := hrel
          have HG := Lib.hid hg
          clear hg
          by_cases hlt : k < 5
          · have hlN : k < s.size := by omega
            cases hd : dgB (bt s k) with
            | true =>
              obtain ⟨d0, d1⟩ := dg_le hd
              obtain ⟨v0, v1⟩ := dv_le HG.out hk1 hk
              have HD := Lib.hid hd
              clear hd
              go_wp2_with (go_at_call 89; refine (refDigit_any _ _).mono ?_; rw [HD.out]; rintro e w' ⟨rfl, rfl⟩)
              go_roundw
              case rel => exact ⟨k + 1, by omega, by omega, by go_num, by rw [dv_step hk1], trivial, HG.out.step HD.out⟩
              case measure => simp [intOf]; omega
            | false =>
              have R := Lib.hid (num_digit hk1 hlt hd)
              have HD := Lib.hid hd
              clear hd
              go_wp2_with (go_at_call 89; refine (refDigit_any _ _).mono ?_; rw [HD.out]; rintro e w' ⟨rfl, rfl⟩)
              go_ret
              exact ⟨by rw [R.out]; rfl, rfl⟩
          · obtain rfl : k = 5 := by omega
            have R := Lib.hid (num_yes h8 h0 HV.out HG.out)
            go_wp2_with fail
            go_ret
            exact ⟨by rw [R.out]; rfl, rfl⟩
      | false =>
        have R := Lib.hid (form_no (s := s) (by simp only [genForm, hv]; simp))
        have hle : (5 : Int) ≤ (s.size : Int) := by omega
        go_enter Tryd.func68, Tryd.ntmps68
        go_wp2_with fail
        go_ret
        exact ⟨by rw [R.out]; rfl, rfl⟩
    · have R := Lib.hid (form_no (s := s) (by simp [genForm, h0]))
      have h0' : (bt s 0 != 71) = true := by simp [h0]
      go_enter Tryd.func68, Tryd.ntmps68
      go_wp2_with fail
      go_ret
      exact ⟨by rw [R.out]; rfl, rfl⟩
  · have R := Lib.hid (form_no (s := s) (by simp [genForm, h8]))
    have h8' : ((s.size : Int) != 8) = true := by simp; omega
    go_enter Tryd.func68, Tryd.ntmps68
    go_wp2_with fail
    go_ret
    exact ⟨by rw [R.out]; rfl, rfl⟩
end Go.Proofs.YtkoaeldlflncpaaDoor
