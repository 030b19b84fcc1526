/-
  The contracts of Qualifiers and First.
-/
import Derived.Test.YtkoaeldlflncpaaDoorAll
import Derived.Test.YtkoaeldlflncpaaDoorDots
import Derived.Lib.MinMax
namespace Go.Proofs.YtkoaeldlflncpaaDoor
open Go.RowKit Go.PlainAid

/-- A text as a list of bytes, and back. -/
abbrev bs (s : ByteArray) : List UInt8 := s.data.toList
abbrev ofL (l : List UInt8) : ByteArray := ⟨l.toArray⟩
theorem bs_ofL (l : List UInt8) : bs (ofL l) = l := by simp
theorem ofL_bs (s : ByteArray) : ofL (bs s) = s := by simp [ofL]
theorem bs_length (s : ByteArray) : (bs s).length = s.size := rfl
theorem ofL_size (l : List UInt8) : (ofL l).size = l.length := by simp [ByteArray.size]
theorem parts_bs (s : ByteArray) : (parts s).map bs = partsL (bs s) := by
  have h := Lib.splitB_data dot 0 (Lib.countB s dot) s
  have hd : dot.data.toList = [46] := rfl
  rw [hd] at h
  have hc : Lib.countB s dot = (bs s).count 46 := by
    have := Lib.count_one 46 (bs s)
    rw [← this]; rfl
  rw [hc, splitK_is] at h
  rw [← h, ← hc]
  rfl
/-- Texts joined by full stops. -/
def joinB (xs : List ByteArray) : ByteArray := ofL (joinL (xs.map bs))
theorem joinL_le (xs : List (List UInt8)) (n : Nat) : (joinL (xs.take n)).length ≤ (joinL xs).length := by
  induction xs generalizing n with
  | nil => simp
  | cons x r ih =>
    cases n with
    | zero => simp [joinL]
    | succ n =>
      rw [List.take_succ_cons]
      cases r with
      | nil => simp
      | cons y r =>
        cases n with
        | zero => simp [joinL]
        | succ n =>
          have := ih (n + 1)
          rw [joinL_cons _ (by simp), joinL_cons _ (by simp)]
          simp only [List.length_append, List.length_cons]
          omega
theorem join_parts_size (s : ByteArray) (n : Nat) : (joinL (((parts s).take n).map bs)).length ≤ s.size := by
  have := joinL_le ((parts s).map bs) n
  rw [parts_bs, join_parts] at this
  rw [List.map_take]
  rw [parts_bs]
  exact this
theorem TextsAt.take {w : World} {B o : Nat} {xs : List ByteArray} (h : TextsAt w B o xs) (n : Nat) : TextsAt w B o (xs.take n) := fun j x hx => by
  rw [List.getElem?_take] at hx
  split at hx
  · exact h j x hx
  · cases hx
/-- strings.Join with a full stop. -/
theorem join_any (B o n c : Nat) (xs : List ByteArray) (w : World) (hx : TextsAt w B o xs) (hB : B < w.heap.size) (hn : xs.length = n) (hc : n ≤ c) (hl : (joinL (xs.map bs)).length ≤ 140737488355328) (hz : n ≤ 140737488355328) :
    Calls Tryd.prog 16 #[.slice (some ⟨B, o, none⟩) n c, .string dot] w fun e w' => e = .returned (.string (joinB xs)) ∧ Below w.heap.size w w' := by
  subst hn
  have hj : (Lib.join (xs.map (·.data.toList)) dot.data.toList) = joinL (xs.map bs) := join_is _
  refine (Tryd.strings_Join B o c xs dot w hx hB hz hc (by rw [hj]; exact hl)).mono ?_
  rintro e w' ⟨rfl, hb⟩
  exact ⟨by rw [hj]; rfl, hb⟩
/-- A list of texts in memory, behind a mark. -/
def TextList (w : World) (lo : Nat) (xs : List ByteArray) (v : Value) : Prop :=
  (xs = [] ∧ v = .slice none 0 0) ∨ (xs ≠ [] ∧ ∃ B, lo ≤ B ∧ B < w.heap.size ∧ v = .slice (some ⟨B, 0, none⟩) xs.length xs.length ∧ TextsAt w B 0 xs)
/-- The qualifiers of a name; none of another text. -/
def qualsB (s : ByteArray) : List ByteArray := if validB s then parts s else []
theorem validB_size {s : ByteArray} (h : validB s = true) : 1 ≤ s.size ∧ s.size ≤ 31 := by
  unfold validB allB at h; simp at h; omega
theorem texts_lt {w : World} {B o : Nat} {xs : List ByteArray} (h : TextsAt w B o xs) (hx : xs ≠ []) : B < w.heap.size := by
  cases xs with
  | nil => exact absurd rfl hx
  | cons x r => exact World.block_lt_of_cell? _ _ (h 0 x rfl)
theorem parts_ne (s : ByteArray) : parts s ≠ [] := fun e => by have := parts_length s; rw [e] at this; simp at this
theorem qualifiers_any (s : ByteArray) (w : World) (hm : MaxLen w) : Calls Tryd.prog 13 #[.string s] w fun e w' => ∃ v, e = .returned v ∧ Below w.heap.size w w' ∧ TextList w' w.heap.size (qualsB s) v := by
  have HM := Lib.hid hm
  clear hm
  cases h : validB s with
  | false =>
    have R : qualsB s = [] := by simp [qualsB, h]
    go_enter Tryd.func13, Tryd.ntmps13
    go_wp2_with (go_at_call 12; refine (valid_any s w HM.out).mono ?_; rw [h]; rintro e w' ⟨rfl, hb⟩)
    go_ret
    exact ⟨_, rfl, hb, Or.inl ⟨R, rfl⟩⟩
  | true =>
    have R : qualsB s = parts s := by simp [qualsB, h]
    have hz := validB_size h
    go_enter Tryd.func13, Tryd.ntmps13
    go_wp2_with (first | (go_at_call 12; refine (valid_any s w HM.out).mono ?_; rw [h]; rintro e w' ⟨rfl, hb⟩) | (go_at_call 21; refine (split_any s _ (HM.out.below hb) (by omega)).mono ?_; rintro e w2 ⟨rfl, hb2, ht⟩))
    go_ret
    refine ⟨_, rfl, hb.trans (hb2.mono hb.size), Or.inr ⟨by rw [R]; exact parts_ne s, _, hb.size, texts_lt ht (parts_ne s), ?_, by rw [R]; exact ht⟩⟩
    rw [R]; rfl
/-- The first qualifiers of a name. -/
def firstB (n : Int) (s : ByteArray) : ByteArray := joinB ((qualsB s).take (min (max n 0) ((qualsB s).length : Int)).toNat)
theorem first_any (n : Int) (s : ByteArray) (w : World) (hm : MaxLen w) : Calls Tryd.prog 15 #[.int .i64 n, .string s] w fun e w' => e = .returned (.string (firstB n s)) ∧ Below w.heap.size w w' := by
  have HM := Lib.hid hm
  clear hm
  obtain ⟨xs, hxs⟩ : ∃ xs, qualsB s = xs := ⟨_, rfl⟩
  have Q := Lib.hid (qualifiers_any s w HM.out)
  have hN : (qualsB s).length ≤ 4294967281 := by
    unfold qualsB; split
    · have := Lib.countB_le dot (by decide) s.size s (Nat.le_refl _)
      have := validB_size (by assumption)
      rw [parts_length]; omega
    · simp
  have hJ : ∀ m, (joinL (((qualsB s).take m).map bs)).length ≤ 140737488355328 := fun m => by
    unfold qualsB; split
    · have := join_parts_size s m
      have := validB_size (by assumption)
      omega
    · simp [joinL]
  have R : firstB n s = joinB (xs.take (min (max n 0) (xs.length : Int)).toNat) := by rw [firstB, hxs]
  rw [hxs] at Q hN hJ
  obtain ⟨m, hm⟩ : ∃ m : Nat, min (max n 0) (xs.length : Int) = m := ⟨(min (max n 0) (xs.length : Int)).toNat, by omega⟩
  have hml : m ≤ xs.length := by omega
  rw [hm, Int.toNat_natCast] at R
  have hJ := Lib.hid (hJ m)
  have R := Lib.hid R
  clear hxs
  by_cases he : xs = []
  · subst he
    have hm0 : m = 0 := by simpa using hml
    subst hm0
    have hm1 : min (max n 0) 0 = 0 := by omega
    have Q0 := Lib.hid (Q.out.mono (R' := fun e w1 => e = .returned (.slice none 0 0) ∧ Below w.heap.size w w1) (by
      rintro e w1 ⟨v, rfl, hb, ⟨_, rfl⟩ | ⟨hne, _⟩⟩
      · exact ⟨rfl, hb⟩
      · exact absurd rfl hne))
    go_enter Tryd.func15, Tryd.ntmps15
    go_wp2_with (first | (go_at_call 13; refine Q0.out.mono ?_; rintro e w1 ⟨rfl, hb⟩) | (go_at_call 16; refine (Tryd.strings_Join_none none 0 dot _).mono ?_; rintro e w' ⟨rfl, rfl⟩))
    go_ret
    exact ⟨by rw [R.out]; rfl, hb⟩
  · have Q1 := Lib.hid (Q.out.mono (R' := fun e w1 => ∃ B, e = .returned (.slice (some ⟨B, 0, none⟩) xs.length xs.length) ∧ B < w1.heap.size ∧ TextsAt w1 B 0 xs ∧ Below w.heap.size w w1) (by
      rintro e w1 ⟨v, rfl, hb, ⟨h0, _⟩ | ⟨_, B, hB0, hB, rfl, ht⟩⟩
      · exact absurd h0 he
      · exact ⟨B, rfl, hB, ht, hb⟩))
    obtain ⟨N, hNe⟩ : ∃ N, xs.length = N := ⟨_, rfl⟩
    have HE := Lib.hid hNe
    rw [hNe] at Q1 hN hm hml
    clear hNe Q
    go_enter Tryd.func15, Tryd.ntmps15
    go_wp2_with (first | (go_at_call 13; refine Q1.out.mono ?_; rintro e w1 ⟨B, rfl, hB, ht, hb⟩; have HT := Lib.hid ht; have HB := Lib.hid hb; clear ht hb) | (go_at_call 16; refine (join_any B 0 m N (xs.take m) _ (HT.out.take m) hB (by rw [List.length_take, HE.out]; omega) hml hJ.out (by omega)).mono ?_; rintro e w' ⟨rfl, hb2⟩))
    go_ret
    exact ⟨by rw [R.out]; rfl, HB.out.trans (hb2.mono HB.out.size)⟩
end Go.Proofs.YtkoaeldlflncpaaDoor
