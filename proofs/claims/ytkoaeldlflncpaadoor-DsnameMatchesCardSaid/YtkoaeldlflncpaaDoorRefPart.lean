/-
  The contract of the reference's part: whether a text is a qualifier, or one with stars.
-/
import Derived.Test.YtkoaeldlflncpaaDoorStarred
import Derived.Test.YtkoaeldlflncpaaDoorRefParts
namespace Go.Proofs.YtkoaeldlflncpaaDoor
open Go.RowKit Go.PlainAid

theorem contains_iff (x : List UInt8) : Lib.contains x [42, 42] = true ↔ ∃ i : Nat, x[i]? = some 42 ∧ x[i + 1]? = some 42 := by
  induction x with
  | nil => exact ⟨fun h => (by cases h), fun ⟨i, h, _⟩ => (by simp at h)⟩
  | cons c r ih =>
    rw [contains_cons, Bool.or_eq_true, ih]
    constructor
    · rintro (h | ⟨i, h1, h2⟩)
      · cases r with
        | nil => simp [List.isPrefixOf] at h
        | cons d r =>
          simp [List.isPrefixOf] at h
          obtain ⟨e1, e2⟩ := h
          subst e1 e2
          exact ⟨0, rfl, rfl⟩
      · exact ⟨i + 1, h1, h2⟩
    · rintro ⟨i, h1, h2⟩
      cases i with
      | zero =>
        left
        cases r with
        | nil => simp at h2
        | cons d r => simp at h1 h2; subst h1 h2; rfl
      | succ i => exact .inr ⟨i, h1, h2⟩
theorem byte_is {s : ByteArray} {i : Nat} (h : i < s.size) : (bs s)[i]? = some 42 ↔ bt s i = 42 := by
  obtain ⟨c, hc, hb⟩ := byte_at h
  rw [hc, hb, Option.some.injEq]
  constructor
  · rintro rfl; rfl
  · intro e
    have h42 : (42 : UInt8).toNat = 42 := rfl
    exact UInt8.toNat_inj.1 (by omega)
theorem byte_lt {s : ByteArray} {i : Nat} {c : UInt8} (h : (bs s)[i]? = some c) : i < s.size := (List.getElem?_eq_some_iff.1 h).1
/-- What part asks of byte j. -/
def okAt (st : Bool) (s : ByteArray) (j : Nat) : Bool := (upB (bt s j) || dgB (bt s j) || st && decide (bt s j = 42)) && !(st && decide (bt s j = 42) && decide (0 < j) && decide (bt s (j - 1) = 42))
def partV (st : Bool) (s : ByteArray) : Bool := st && (s.toList == [42, 42]) || decide (1 ≤ s.size) && decide (s.size ≤ 8) && !dgB (bt s 0) && (List.range s.size).all (okAt st s)
theorem up_dg {c : Int} (h : upB c = true) : dgB c = false := by
  unfold upB at h; unfold dgB; simp at h ⊢; omega
theorem partV_false (s : ByteArray) : partV false s = vq s := by
  unfold partV vq qual
  rw [Bool.false_and, Bool.false_or, Bool.eq_iff_iff]
  simp only [Bool.and_eq_true, decide_eq_true_eq, List.all_eq_true, List.mem_range, Bool.not_eq_true', Bool.or_eq_true, okAt, Bool.false_and, Bool.or_false, Bool.not_false, Bool.and_true, plB]
  constructor
  · rintro ⟨⟨⟨h1, h2⟩, h3⟩, h4⟩
    refine ⟨⟨⟨h1, h2⟩, ?_⟩, fun j hj => .inr (h4 j hj)⟩
    rcases h4 0 (by omega) with h | h
    · exact h
    · rw [h3] at h; cases h
  · rintro ⟨⟨⟨h1, h2⟩, h3⟩, h4⟩
    refine ⟨⟨⟨h1, h2⟩, up_dg h3⟩, fun j hj => ?_⟩
    rcases h4 j hj with rfl | h
    · exact .inl h3
    · exact h
theorem partV_true (s : ByteArray) : partV true s = pq s := by
  unfold partV pq
  rw [Bool.true_and]
  cases hss : (s.toList == [42, 42]) with
  | true => rfl
  | false =>
    rw [Bool.false_or, Bool.false_or, Bool.eq_iff_iff]
    have hcn : (!Lib.contains s.data.toList ss.data.toList) = true ↔ ¬ ∃ i : Nat, (bs s)[i]? = some 42 ∧ (bs s)[i + 1]? = some 42 := by
      rw [← contains_iff, Bool.not_eq_true']
      simp [show ss.data.toList = [42, 42] from rfl]
    rw [Bool.and_eq_true (qual stB psB s), hcn]
    unfold qual
    simp only [Bool.and_eq_true, decide_eq_true_eq, List.all_eq_true, List.mem_range, Bool.not_eq_true', Bool.or_eq_true, okAt, Bool.true_and, plB, psB, stB, Bool.and_eq_false_iff, decide_eq_false_iff_not]
    constructor
    · rintro ⟨⟨⟨h1, h2⟩, h3⟩, h4⟩
      refine ⟨⟨⟨⟨h1, h2⟩, ?_⟩, fun j hj => .inr (h4 j hj).1⟩, ?_⟩
      · rcases (h4 0 (by omega)).1 with (h | h) | h
        · exact .inl h
        · rw [h3] at h; cases h
        · exact .inr h
      · rintro ⟨i, hi, hi2⟩
        have hlt := byte_lt hi2
        have e1 := (byte_is (byte_lt hi)).1 hi
        have e2 := (byte_is hlt).1 hi2
        rcases (h4 (i + 1) hlt).2 with (h | h) | h
        · exact h e2
        · exact h (by omega)
        · exact h (by rw [Nat.add_sub_cancel]; exact e1)
    · rintro ⟨⟨⟨⟨h1, h2⟩, h3⟩, h4⟩, h5⟩
      refine ⟨⟨⟨h1, h2⟩, ?_⟩, fun j hj => ⟨?_, ?_⟩⟩
      · rcases h3 with h | h
        · exact up_dg h
        · rw [h]; rfl
      · rcases h4 j hj with rfl | h
        · rcases h3 with h | h
          · exact .inl (.inl h)
          · exact .inr h
        · exact h
      · by_cases e2 : bt s j = 42
        · by_cases e0 : 0 < j
          · right
            intro e1
            exact h5 ⟨j - 1, (byte_is (by omega)).2 e1, by rw [show j - 1 + 1 = j by omega]; exact (byte_is hj).2 e2⟩
          · exact .inl (.inr e0)
        · exact .inl (.inl e2)
theorem partV_is (st : Bool) (s : ByteArray) : partV st s = if st then pq s else vq s := by
  cases st
  · exact partV_false s
  · exact partV_true s
theorem partV_no {st : Bool} {s : ByteArray} (h : (st && (s.toList == [42, 42])) = false) {j : Nat} (hj : j < s.size) (ho : okAt st s j = false) : partV st s = false := by
  unfold partV
  rw [h, Bool.false_or]
  have : (List.range s.size).all (okAt st s) = false := List.all_eq_false.2 ⟨j, List.mem_range.2 hj, by simp [ho]⟩
  rw [this, Bool.and_false]
theorem partV_yes {st : Bool} {s : ByteArray} (h1 : 1 ≤ s.size) (h8 : s.size ≤ 8) (h0 : dgB (bt s 0) = false) (ho : ∀ j, j < s.size → okAt st s j = true) : partV st s = true := by
  unfold partV
  have : (List.range s.size).all (okAt st s) = true := List.all_eq_true.2 fun j hj => ho j (List.mem_range.1 hj)
  rw [this]; simp [h1, h8, h0]
theorem partV_off {st : Bool} {s : ByteArray} (h : (st && (s.toList == [42, 42])) = false) (h2 : s.size < 1 ∨ 8 < s.size ∨ dgB (bt s 0) = true) : partV st s = false := by
  unfold partV
  rw [h, Bool.false_or]
  rcases h2 with h2 | h2 | h2
  · rw [decide_eq_false (show ¬ 1 ≤ s.size by omega)]; rfl
  · rw [decide_eq_false (show ¬ s.size ≤ 8 by omega)]; simp
  · rw [h2]; simp
theorem part_stars (s : ByteArray) (w : World) (h : (s.toList == [42, 42]) = true) : Calls Tryd.prog 90 #[.string s, .bool true] w fun e w' => e = .returned (.bool true) ∧ w = w' := by
  go_enter Tryd.func90, Tryd.ntmps90
  go_wp2_with fail
  go_ret
  exact ⟨rfl, rfl⟩
theorem part_short (s : ByteArray) (st : Bool) (w : World) (h : (st && (s.toList == [42, 42])) = false) (hz : s.size < 1) : Calls Tryd.prog 90 #[.string s, .bool st] w fun e w' => e = .returned (.bool false) ∧ w = w' := by
  have h1 : decide ((s.size : Int) < 1) = true := by simp; omega
  cases st
  all_goals
    try simp only [Bool.true_and] at h
    go_enter Tryd.func90, Tryd.ntmps90
    go_wp2_with fail
    go_ret
    exact ⟨rfl, rfl⟩
theorem part_long (s : ByteArray) (st : Bool) (w : World) (h : (st && (s.toList == [42, 42])) = false) (hz : 8 < s.size) : Calls Tryd.prog 90 #[.string s, .bool st] w fun e w' => e = .returned (.bool false) ∧ w = w' := by
  have h1 : decide ((s.size : Int) < 1) = false := by simp; omega
  have h2 : decide ((8 : Int) < (s.size : Int)) = true := by simp; omega
  cases st
  all_goals
    try simp only [Bool.true_and] at h
    go_enter Tryd.func90, Tryd.ntmps90
    go_wp2_with fail
    go_ret
    exact ⟨rfl, rfl⟩
theorem part_digit (s : ByteArray) (st : Bool) (w : World) (h : (st && (s.toList == [42, 42])) = false) (hz : 1 ≤ s.size) (hz8 : s.size ≤ 8) (hd : dgB (bt s 0) = true) : Calls Tryd.prog 90 #[.string s, .bool st] w fun e w' => e = .returned (.bool false) ∧ w = w' := by
  have h1 : decide ((s.size : Int) < 1) = false := by simp; omega
  have h2 : decide ((8 : Int) < (s.size : Int)) = false := by simp; omega
  have h0 : 0 < s.size := by omega
  have hget := get_bt s
  cases st
  all_goals
    try simp only [Bool.true_and] at h
    go_enter Tryd.func90, Tryd.ntmps90
    go_wp2_with (go_at_call 89; refine (refDigit_any _ _).mono ?_; rw [hd]; rintro e w' ⟨rfl, rfl⟩)
    go_ret
    exact ⟨rfl, rfl⟩
set_option maxHeartbeats 2000000 in
theorem part_loop_f (s : ByteArray) (w : World) (h : (false && (s.toList == [42, 42])) = false) (hz : 1 ≤ s.size) (hz8 : s.size ≤ 8) (hd : dgB (bt s 0) = false) : Calls Tryd.prog 90 #[.string s, .bool false] w fun e w' => e = .returned (.bool (partV false s)) ∧ w = w' := by
  have h1 : decide ((s.size : Int) < 1) = false := by simp; omega
  have h2 : decide ((8 : Int) < (s.size : Int)) = false := by simp; omega
  have h0 : 0 < s.size := by omega
  have hget := get_bt s
  have HH := Lib.hid h
  have HD := Lib.hid hd
  clear hd
  clear h
  go_enter Tryd.func90, Tryd.ntmps90
  go_wp2_with (go_at_call 89; refine (refDigit_any _ _).mono ?_; rw [HD.out]; rintro e w' ⟨rfl, rfl⟩)
  go_loopw [5] (fun i wr => ∃ j : Nat, j ≤ s.size ∧ i = .int .i64 j ∧ wr = w ∧ Hid (∀ n, n < j → okAt false s n = true)) (fun i _ => s.size - (intOf i).toNat)
  case atStart => exact ⟨0, by omega, rfl, rfl, Lib.hid fun n hn => absurd hn (by omega)⟩
  case round =>
    obtain ⟨j, hj, rfl, rfl, HO⟩ := hrel
    by_cases hlt : j < s.size
    · have hnext : okAt false s j = true → Hid (∀ n, n < j + 1 → okAt false s n = true) := fun ho => Lib.hid fun n hn => by
        by_cases e : n = j
        · subst e; exact ho
        · exact HO.out n (by omega)
      have HN := Lib.hid hnext
      clear hnext
      cases hc : upB (bt s j) with
      | true =>
        have hne : ¬ bt s j = 42 := by unfold upB at hc; simp at hc; omega
        have HU := Lib.hid hc
        have HG := Lib.hid (up_dg hc)
        have ho : okAt false s j = true := by unfold okAt; rw [hc]; simp [hne]
        have hnb : (bt s j == 42) = false := by simpa using hne
        have HA := Lib.hid ho
        clear hc ho
        go_wp2_with (first | (go_at_call 104; refine (letter_any _ _).mono ?_; rw [HU.out]; rintro e w' ⟨rfl, rfl⟩) | (go_at_call 89; refine (refDigit_any _ _).mono ?_; rw [HG.out]; rintro e w' ⟨rfl, rfl⟩))
        go_roundw
        case rel => exact ⟨j + 1, by omega, by go_num, trivial, HN.out (HA.out)⟩
        case measure => simp [intOf]; omega
      | false =>
        have HU := Lib.hid hc
        cases hg : dgB (bt s j) with
        | true =>
          have hne : ¬ bt s j = 42 := by unfold dgB at hg; simp at hg; omega
          have HG := Lib.hid hg
          have ho : okAt false s j = true := by unfold okAt; rw [hg]; simp [hne]
          have hnb : (bt s j == 42) = false := by simpa using hne
          have HA := Lib.hid ho
          clear hc hg ho
          go_wp2_with (first | (go_at_call 104; refine (letter_any _ _).mono ?_; rw [HU.out]; rintro e w' ⟨rfl, rfl⟩) | (go_at_call 89; refine (refDigit_any _ _).mono ?_; rw [HG.out]; rintro e w' ⟨rfl, rfl⟩))
          go_roundw
          case rel => exact ⟨j + 1, by omega, by go_num, trivial, HN.out (HA.out)⟩
          case measure => simp [intOf]; omega
        | false =>
          have HG := Lib.hid hg
          have ho : okAt false s j = false := by unfold okAt; rw [hc, hg]; rfl
          have HA := Lib.hid ho
          clear hc hg ho
          have R := Lib.hid (partV_no HH.out hlt (HA.out))
          go_wp2_with (first | (go_at_call 104; refine (letter_any _ _).mono ?_; rw [HU.out]; rintro e w' ⟨rfl, rfl⟩) | (go_at_call 89; refine (refDigit_any _ _).mono ?_; rw [HG.out]; rintro e w' ⟨rfl, rfl⟩))
          go_ret
          exact ⟨by rw [R.out]; rfl, rfl⟩
    · have R := Lib.hid (partV_yes (st := false) hz hz8 HD.out fun n hn => HO.out n (by omega))
      go_wp2_with fail
      go_ret
      exact ⟨by rw [R.out]; rfl, rfl⟩
set_option maxHeartbeats 2000000 in
theorem part_loop_t (s : ByteArray) (w : World) (h : (true && (s.toList == [42, 42])) = false) (hz : 1 ≤ s.size) (hz8 : s.size ≤ 8) (hd : dgB (bt s 0) = false) : Calls Tryd.prog 90 #[.string s, .bool true] w fun e w' => e = .returned (.bool (partV true s)) ∧ w = w' := by
  have h1 : decide ((s.size : Int) < 1) = false := by simp; omega
  have h2 : decide ((8 : Int) < (s.size : Int)) = false := by simp; omega
  have h0 : 0 < s.size := by omega
  have hget := get_bt s
  have HH := Lib.hid h
  have HD := Lib.hid hd
  clear hd
  simp only [Bool.true_and] at h
  go_enter Tryd.func90, Tryd.ntmps90
  go_wp2_with (go_at_call 89; refine (refDigit_any _ _).mono ?_; rw [HD.out]; rintro e w' ⟨rfl, rfl⟩)
  go_loopw [5] (fun i wr => ∃ j : Nat, j ≤ s.size ∧ i = .int .i64 j ∧ wr = w ∧ Hid (∀ n, n < j → okAt true s n = true)) (fun i _ => s.size - (intOf i).toNat)
  case atStart => exact ⟨0, by omega, rfl, rfl, Lib.hid fun n hn => absurd hn (by omega)⟩
  case round =>
    obtain ⟨j, hj, rfl, rfl, HO⟩ := hrel
    by_cases hlt : j < s.size
    · have hnext : okAt true s j = true → Hid (∀ n, n < j + 1 → okAt true s n = true) := fun ho => Lib.hid fun n hn => by
        by_cases e : n = j
        · subst e; exact ho
        · exact HO.out n (by omega)
      have HN := Lib.hid hnext
      clear hnext
      cases hc : upB (bt s j) with
      | true =>
        have hne : ¬ bt s j = 42 := by unfold upB at hc; simp at hc; omega
        have HU := Lib.hid hc
        have HG := Lib.hid (up_dg hc)
        have ho : okAt true s j = true := by unfold okAt; rw [hc]; simp [hne]
        have hnb : (bt s j == 42) = false := by simpa using hne
        have HA := Lib.hid ho
        clear hc ho
        go_wp2_with (first | (go_at_call 104; refine (letter_any _ _).mono ?_; rw [HU.out]; rintro e w' ⟨rfl, rfl⟩) | (go_at_call 89; refine (refDigit_any _ _).mono ?_; rw [HG.out]; rintro e w' ⟨rfl, rfl⟩))
        go_roundw
        case rel => exact ⟨j + 1, by omega, by go_num, trivial, HN.out (HA.out)⟩
        case measure => simp [intOf]; omega
      | false =>
        have HU := Lib.hid hc
        cases hg : dgB (bt s j) with
        | true =>
          have hne : ¬ bt s j = 42 := by unfold dgB at hg; simp at hg; omega
          have HG := Lib.hid hg
          have ho : okAt true s j = true := by unfold okAt; rw [hg]; simp [hne]
          have hnb : (bt s j == 42) = false := by simpa using hne
          have HA := Lib.hid ho
          clear hc hg ho
          go_wp2_with (first | (go_at_call 104; refine (letter_any _ _).mono ?_; rw [HU.out]; rintro e w' ⟨rfl, rfl⟩) | (go_at_call 89; refine (refDigit_any _ _).mono ?_; rw [HG.out]; rintro e w' ⟨rfl, rfl⟩))
          go_roundw
          case rel => exact ⟨j + 1, by omega, by go_num, trivial, HN.out (HA.out)⟩
          case measure => simp [intOf]; omega
        | false =>
          have HG := Lib.hid hg
          by_cases h42 : bt s j = 42
          · have hnb : (bt s j == 42) = true := by simpa using h42
            by_cases hj0 : j = 0
            · subst hj0
              have HA := Lib.hid (show okAt true s 0 = true by unfold okAt; rw [h42]; rfl)
              clear hc hg h42
              go_wp2_with (first | (go_at_call 104; refine (letter_any _ _).mono ?_; rw [HU.out]; rintro e w' ⟨rfl, rfl⟩) | (go_at_call 89; refine (refDigit_any _ _).mono ?_; rw [HG.out]; rintro e w' ⟨rfl, rfl⟩))
              go_roundw
              case rel => exact ⟨0 + 1, by omega, by go_num, trivial, HN.out (HA.out)⟩
              case measure => simp [intOf]; omega
            · obtain ⟨i, rfl⟩ : ∃ i, j = i + 1 := ⟨j - 1, by omega⟩
              have hilt : i < s.size := by omega
              have hi0 : decide ((0 : Int) < (i : Int) + 1) = true := decide_eq_true (by omega)
              by_cases hp : bt s i = 42
              · have hpb : (bt s i == 42) = true := by simpa using hp
                have HA := Lib.hid (show okAt true s (i + 1) = false by unfold okAt; rw [Nat.add_sub_cancel, h42, hp]; rfl)
                clear hc hg h42 hp
                have R := Lib.hid (partV_no HH.out hlt (HA.out))
                go_wp2_with (first | (go_at_call 104; refine (letter_any _ _).mono ?_; rw [HU.out]; rintro e w' ⟨rfl, rfl⟩) | (go_at_call 89; refine (refDigit_any _ _).mono ?_; rw [HG.out]; rintro e w' ⟨rfl, rfl⟩))
                go_ret
                exact ⟨by rw [R.out]; rfl, rfl⟩
              · have hpb : (bt s i == 42) = false := by simpa using hp
                have HA := Lib.hid (show okAt true s (i + 1) = true by unfold okAt; rw [Nat.add_sub_cancel, h42]; simp [hp])
                clear hc hg h42 hp
                go_wp2_with (first | (go_at_call 104; refine (letter_any _ _).mono ?_; rw [HU.out]; rintro e w' ⟨rfl, rfl⟩) | (go_at_call 89; refine (refDigit_any _ _).mono ?_; rw [HG.out]; rintro e w' ⟨rfl, rfl⟩))
                go_roundw
                case rel => exact ⟨i + 1 + 1, by omega, by go_num, trivial, HN.out (HA.out)⟩
                case measure => simp [intOf]; omega
          · have hnb : (bt s j == 42) = false := by simpa using h42
            have HA := Lib.hid (show okAt true s j = false by unfold okAt; rw [hc, hg]; simp [h42])
            clear hc hg h42
            have R := Lib.hid (partV_no HH.out hlt (HA.out))
            go_wp2_with (first | (go_at_call 104; refine (letter_any _ _).mono ?_; rw [HU.out]; rintro e w' ⟨rfl, rfl⟩) | (go_at_call 89; refine (refDigit_any _ _).mono ?_; rw [HG.out]; rintro e w' ⟨rfl, rfl⟩))
            go_ret
            exact ⟨by rw [R.out]; rfl, rfl⟩
    · have R := Lib.hid (partV_yes (st := true) hz hz8 HD.out fun n hn => HO.out n (by omega))
      go_wp2_with fail
      go_ret
      exact ⟨by rw [R.out]; rfl, rfl⟩
/-- The contract. -/
theorem refPart_any (s : ByteArray) (st : Bool) (w : World) : Calls Tryd.prog 90 #[.string s, .bool st] w fun e w' => e = .returned (.bool (if st then pq s else vq s)) ∧ w = w' := by
  rw [← partV_is]
  cases h : (st && (s.toList == [42, 42])) with
  | true =>
    rw [Bool.and_eq_true] at h
    obtain ⟨rfl, h⟩ := h
    have : partV true s = true := by unfold partV; rw [h]; rfl
    rw [this]
    exact part_stars s w h
  | false =>
    by_cases hz : s.size < 1
    · rw [partV_off h (.inl hz)]; exact part_short s st w h hz
    by_cases hz8 : 8 < s.size
    · rw [partV_off h (.inr (.inl hz8))]; exact part_long s st w h hz8
    cases hd : dgB (bt s 0) with
    | true => rw [partV_off h (.inr (.inr hd))]; exact part_digit s st w h (by omega) (by omega) hd
    | false =>
      cases st
      · exact part_loop_f s w h (by omega) (by omega) hd
      · exact part_loop_t s w h (by omega) (by omega) hd
end Go.Proofs.YtkoaeldlflncpaaDoor
