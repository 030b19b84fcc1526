/-
  The contracts of Split and Generation.
-/
import Derived.Test.YtkoaeldlflncpaaDoorGroup
namespace Go.Proofs.YtkoaeldlflncpaaDoor
open Go.RowKit Go.PlainAid

theorem below_drewN {B : Nat} {a w : World} (h : Below B a w) : ∀ n, Below B a (w.drewN n)
  | 0 => h
  | n + 1 => (below_drewN h n).drew
/-- The text ahead of place i, and the text behind it. -/
def headB (s : ByteArray) (i : Nat) : ByteArray := s.extract 0 i
def tailB (s : ByteArray) (i : Nat) : ByteArray := s.extract (i + 1) s.size
/-- What Split answers. -/
def splitV (s : ByteArray) : ByteArray × Int × Bool :=
  if 0 ≤ Lib.lastIndexByte s 46 then
    if groupB (headB s (Lib.lastIndexByte s 46).toNat) = true ∧ numB (tailB s (Lib.lastIndexByte s 46).toNat) ≠ 0 then
      (headB s (Lib.lastIndexByte s 46).toNat, numB (tailB s (Lib.lastIndexByte s 46).toNat), true)
    else (⟨#[]⟩, 0, false)
  else (⟨#[]⟩, 0, false)
/-- As the call answers it. -/
def splitE (v : ByteArray × Int × Bool) : Ending := .returned (.tuple #[.string v.1, .int .i64 v.2.1, .bool v.2.2])
set_option maxHeartbeats 1000000 in
theorem splitName_any (s : ByteArray) (w : World) (hm : MaxLen w) (hs : s.size < 4611686018427387904) : Calls Tryd.prog 24 #[.string s] w fun e w' => e = splitE (splitV s) ∧ Below w.heap.size w w' := by
  have HM := Lib.hid hm
  clear hm
  have L := Lib.hid (Tryd.strings_LastIndexByte s 46 hs w)
  rcases Lib.lastIndexByte_spec s 46 with ⟨hi, _⟩ | ⟨i, hlt, hi, _⟩
  · have R : splitV s = (⟨#[]⟩, 0, false) := by simp [splitV, hi]
    rw [hi] at L
    clear hi
    go_enter Tryd.func24, Tryd.ntmps24
    go_wp2_with (go_at_call 65; refine L.out.mono ?_; rintro e w' ⟨rfl, rfl⟩)
    go_ret3
    exact ⟨by rw [R]; rfl, Below.refl _ _⟩
  · have R0 : splitV s = if groupB (headB s i) = true ∧ numB (tailB s i) ≠ 0 then (headB s i, numB (tailB s i), true) else (⟨#[]⟩, 0, false) := by
      rw [splitV, hi, if_pos (by omega)]; rfl
    rw [hi] at L
    clear hi
    have hneg : decide ((i : Int) < 0) = false := by simp
    have hle : (i : Int) ≤ s.size := by omega
    have hle2 : (i : Int) + 1 ≤ s.size := by omega
    obtain ⟨h, hh⟩ : ∃ h, s.extract 0 i = h := ⟨_, rfl⟩
    obtain ⟨t, ht⟩ : ∃ t, s.extract (i + 1) s.size = t := ⟨_, rfl⟩
    rw [show headB s i = h from hh, show tailB s i = t from ht] at R0
    cases hg : groupB h with
    | false =>
      have R : splitV s = (⟨#[]⟩, 0, false) := by rw [R0]; simp [hg]
      clear R0
      go_enter Tryd.func24, Tryd.ntmps24
      go_wp2_with (first | (go_at_call 65; refine L.out.mono ?_; rintro e w' ⟨rfl, rfl⟩) | (go_at_call 23; refine (isGroup_any h _ HM.out).mono ?_; rw [hg]; rintro e w' ⟨rfl, hb⟩))
      go_ret3
      exact ⟨by rw [R]; rfl, hb⟩
    | true =>
      cases hn : (numB t == 0) with
      | true =>
        have hn0 : numB t = 0 := by simpa using hn
        have R : splitV s = (⟨#[]⟩, 0, false) := by rw [R0]; simp [hn0]
        clear R0 hn0
        have HN := Lib.hid hn
        go_enter Tryd.func24, Tryd.ntmps24
        go_wp2_with (first | (go_at_call 65; refine L.out.mono ?_; rintro e w' ⟨rfl, rfl⟩) | (go_at_call 23; refine (isGroup_any h _ HM.out).mono ?_; rw [hg]; rintro e w' ⟨rfl, hb⟩) | (go_at_call 64; refine (number_any t _).mono ?_; rintro e w' ⟨rfl, rfl⟩))
        go_ret3
        exact ⟨by rw [R]; rfl, hb⟩
      | false =>
        have hn0 : numB t ≠ 0 := by simpa using hn
        have R : splitV s = (h, numB t, true) := by rw [R0]; simp [hn0, hg]
        clear R0 hn0
        go_enter Tryd.func24, Tryd.ntmps24
        go_wp2_with (first | (go_at_call 65; refine L.out.mono ?_; rintro e w' ⟨rfl, rfl⟩) | (go_at_call 23; refine (isGroup_any h _ HM.out).mono ?_; rw [hg]; rintro e w' ⟨rfl, hb⟩) | (go_at_call 64; refine (number_any t _).mono ?_; rintro e w' ⟨rfl, rfl⟩))
        go_quiet ((go_at_call 64; refine Calls.quiet_of_same ((number_any t _).mono fun _ _ h => ⟨h.1, h.2.symm⟩)))
        go_wp2_with fail
        go_ret3
        exact ⟨by rw [R]; rfl, below_drewN hb _⟩
end Go.Proofs.YtkoaeldlflncpaaDoor
