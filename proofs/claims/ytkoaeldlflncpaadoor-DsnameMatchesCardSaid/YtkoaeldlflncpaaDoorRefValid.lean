/-
  The contracts of the reference's valid, Valid, ValidPattern and Join.
-/
import Derived.Test.YtkoaeldlflncpaaDoorRefPart
namespace Go.Proofs.YtkoaeldlflncpaaDoor
open Go.RowKit Go.PlainAid

/-- What the reference's valid asks of a part. -/
def accB (st : Bool) (x : ByteArray) : Bool := if st then pq x else vq x
theorem refParts_form (s : ByteArray) (w : World) (hs : s.size ≤ 1000) : Calls Tryd.prog 53 #[.string s] w fun e w' => ∃ g c, e = .returned (.slice (some ⟨g, 0, none⟩) (parts s).length c) ∧ w.heap.size ≤ g ∧ g < w'.heap.size ∧ (parts s).length ≤ c ∧ OwnTexts w' g (parts s) ∧ Below w.heap.size w w' := by
  refine (refParts_any s w hs).mono ?_
  rintro e w' ⟨v, rfl, ho, hb⟩
  obtain ⟨g, c, rfl, hg, hc, _⟩ := ho.form (parts_ne s)
  exact ⟨g, c, rfl, hg, texts_lt ho.texts.c (parts_ne s), hc, ho.texts, hb⟩
set_option maxHeartbeats 1000000 in
theorem refValid2_any (s : ByteArray) (st : Bool) (w : World) : Calls Tryd.prog 69 #[.string s, .bool st] w fun e w' => e = .returned (.bool (allB (accB st) 31 s)) ∧ Below w.heap.size w w' := by
  by_cases h1 : s.size < 1
  · have R := Lib.hid (allB_short (p := accB st) (most := 31) h1)
    have h1' : decide ((s.size : Int) < 1) = true := decide_eq_true (by omega)
    go_enter Tryd.func69, Tryd.ntmps69
    go_wp2_with fail
    go_ret
    exact ⟨by rw [R.out]; rfl, Below.refl _ _⟩
  by_cases h8 : (31 : Int) < s.size
  · have R := Lib.hid (allB_long (p := accB st) h8)
    have h1' : decide ((s.size : Int) < 1) = false := decide_eq_false (by omega)
    have h8' : decide ((31 : Int) < (s.size : Int)) = true := decide_eq_true h8
    clear h8
    go_enter Tryd.func69, Tryd.ntmps69
    go_wp2_with fail
    go_ret
    exact ⟨by rw [R.out]; rfl, Below.refl _ _⟩
  have h1' : decide ((s.size : Int) < 1) = false := decide_eq_false (by omega)
  have h8' : decide ((31 : Int) < (s.size : Int)) = false := decide_eq_false h8
  obtain ⟨N, hN⟩ : ∃ N, (parts s).length = N := ⟨_, rfl⟩
  have hNb : N ≤ 32 := by have := parts_few s; omega
  have SP := Lib.hid (refParts_form s w (by omega))
  rw [hN] at SP
  have HN := Lib.hid hN
  clear hN
  go_enter Tryd.func69, Tryd.ntmps69
  go_wp2_with fail
  refine SP.out.mono ?_
  rintro e w1 ⟨g, c, rfl, hg, hgl, hc, ht, hb⟩
  have HB := Lib.hid hb
  have HT := Lib.hid ht
  clear hb ht SP
  go_wp2_with fail
  go_loopw [6] (fun i wr => ∃ j : Nat, j ≤ N ∧ i = .int .i64 j ∧ wr = w1 ∧ Hid (∀ (n : Nat) x, n < j → (parts s)[n]? = some x → accB st x = true)) (fun i _ => N - (intOf i).toNat)
  case atStart => exact ⟨0, by omega, rfl, rfl, Lib.hid fun n x hn => absurd hn (by omega)⟩
  case round =>
    obtain ⟨j, hj, rfl, rfl, HP⟩ := hrel
    by_cases hlt : j < N
    · obtain ⟨x, hx⟩ : ∃ x, (parts s)[j]? = some x := ⟨_, List.getElem?_eq_getElem (by rw [HN.out]; exact hlt)⟩
      have hcell := HT.out.c j x hx
      rw [Nat.zero_add] at hcell
      have HX := Lib.hid hx
      clear hx
      cases hd : accB st x with
      | true =>
        have HQ := Lib.hid (show (if st then pq x else vq x) = true from hd)
        go_wp2_with (go_at_call 90; refine (refPart_any x st _).mono ?_; rw [HQ.out]; rintro e w' ⟨rfl, rfl⟩)
        go_roundw
        case rel => exact ⟨j + 1, by omega, by go_num, trivial, Lib.hid fun n y hn hy => by
          by_cases e : n = j
          · subst e; rw [HX.out] at hy; cases hy; exact hd
          · exact HP.out n y (by omega) hy⟩
        case measure => simp [intOf]; omega
      | false =>
        have HQ := Lib.hid (show (if st then pq x else vq x) = false from hd)
        have R := Lib.hid (allB_none (most := 31) HX.out hd)
        go_wp2_with (go_at_call 90; refine (refPart_any x st _).mono ?_; rw [HQ.out]; rintro e w' ⟨rfl, rfl⟩)
        go_ret
        exact ⟨by rw [R.out]; rfl, HB.out⟩
    · have R := Lib.hid (allB_all (p := accB st) (s := s) (most := 31) (by omega) (by omega) (fun n x hn => HP.out n x (by have := HN.out; omega)))
      go_wp2_with fail
      go_ret
      exact ⟨by rw [R.out]; rfl, HB.out⟩
theorem refValid_any (s : ByteArray) (w : World) : Calls Tryd.prog 27 #[.string s] w fun e w' => e = .returned (.bool (validB s)) ∧ Below w.heap.size w w' := by
  go_enter Tryd.func27, Tryd.ntmps27
  go_wp2_with (go_at_call 69; refine (refValid2_any s false w).mono ?_; rintro e w' ⟨rfl, hb⟩)
  go_ret
  exact ⟨rfl, hb⟩
theorem refPattern_any (s : ByteArray) (w : World) : Calls Tryd.prog 29 #[.string s] w fun e w' => e = .returned (.bool (patB s)) ∧ Below w.heap.size w w' := by
  go_enter Tryd.func29, Tryd.ntmps29
  go_wp2_with (go_at_call 69; refine (refValid2_any s true w).mono ?_; rintro e w' ⟨rfl, hb⟩)
  go_ret
  exact ⟨rfl, hb⟩

/-! Join. -/
/-- What Join has behind k texts. -/
def jk (xs : List ByteArray) (k : Nat) : ByteArray := joinB (xs.take k)
theorem jk_zero (xs : List ByteArray) : jk xs 0 = ⟨#[]⟩ := by simp [jk, joinB, joinL]
theorem joinL_app (u : List (List UInt8)) (x : List UInt8) (h : u ≠ []) : joinL (u ++ [x]) = joinL u ++ 46 :: x := by
  induction u with
  | nil => exact absurd rfl h
  | cons y u ih =>
    cases u with
    | nil => rfl
    | cons z u => rw [List.cons_append, joinL_cons _ (by simp), ih (by simp), joinL_cons y (by simp)]; simp
theorem jk_one {xs : List ByteArray} {x : ByteArray} (h : xs[0]? = some x) : jk xs 1 = x := by
  have : xs.take 1 = [x] := by rw [List.take_add_one, h]; rfl
  rw [jk, this, joinB]; exact ofL_bs x
theorem jk_succ {xs : List ByteArray} {x : ByteArray} {k : Nat} (hk : 0 < k) (h : xs[k]? = some x) : jk xs (k + 1) = jk xs k ++ dot ++ x := by
  have hl : k < xs.length := (List.getElem?_eq_some_iff.1 h).1
  have : xs.take (k + 1) = xs.take k ++ [x] := by rw [List.take_add_one, h]; rfl
  have hb : ∀ a b : ByteArray, bs (a ++ b) = bs a ++ bs b := fun a b => by simp [bs]
  have hne : (xs.take k).map bs ≠ [] := fun e => by
    have := congrArg List.length (List.map_eq_nil_iff.1 e)
    rw [List.length_take, List.length_nil] at this
    omega
  rw [← ofL_bs (jk xs k ++ dot ++ x)]
  unfold jk
  rw [joinB, this, List.map_append, List.map_cons, List.map_nil, joinL_app _ _ hne]
  congr 1
  rw [hb, hb, joinB, bs_ofL]
  simp [dot, bs]
theorem jk_all (xs : List ByteArray) : jk xs xs.length = joinB xs := by rw [jk, List.take_length]
theorem jk_size (xs : List ByteArray) (k : Nat) : (jk xs k).size ≤ (joinL (xs.map bs)).length := by
  rw [jk, joinB, ofL_size, List.map_take]; exact joinL_le _ _
theorem jk_part {xs : List ByteArray} {x : ByteArray} {k : Nat} (h : xs[k]? = some x) : x.size ≤ (joinL (xs.map bs)).length := by
  have := jk_size xs (k + 1)
  cases k with
  | zero => rw [jk_one h] at this; exact this
  | succ k => rw [jk_succ (by omega) h, ByteArray.size_append] at this; omega
theorem refJoin_nil (w : World) : Calls Tryd.prog 67 #[.slice none 0 0] w fun e w' => e = .returned (.string ⟨#[]⟩) ∧ w = w' := by
  go_enter Tryd.func67, Tryd.ntmps67
  go_wp2_with fail
  go_loopw [3, 4] (fun v i wr => v = .string ⟨#[]⟩ ∧ i = .int .i64 0 ∧ wr = w) (fun _ _ _ => 0)
  case atStart => exact ⟨rfl, rfl, rfl⟩
  case round =>
    obtain ⟨rfl, rfl, rfl⟩ := hrel
    go_wp2_with fail
    go_ret
    exact ⟨rfl, rfl⟩
set_option maxHeartbeats 1000000 in
theorem refJoin_any (B n c : Nat) (xs : List ByteArray) (w : World) (hx : TextsAt w B 0 xs) (hn : xs.length = n) (hl : (joinL (xs.map bs)).length ≤ 1000) (hz : n ≤ 1000) :
    Calls Tryd.prog 67 #[.slice (some ⟨B, 0, none⟩) n c] w fun e w' => e = .returned (.string (joinB xs)) ∧ w = w' := by
  have HX := Lib.hid hx
  have HN := Lib.hid hn
  have HL := Lib.hid hl
  clear hx hn hl
  go_enter Tryd.func67, Tryd.ntmps67
  go_wp2_with fail
  go_loopw [3, 4] (fun v i wr => ∃ k : Nat, k ≤ n ∧ v = .string (jk xs k) ∧ i = .int .i64 k ∧ wr = w) (fun _ i _ => n - (intOf i).toNat)
  case atStart => exact ⟨0, by omega, by rw [jk_zero], rfl, rfl⟩
  case round =>
    obtain ⟨k, hk, rfl, rfl, rfl⟩ := hrel
    by_cases hlt : k < n
    · obtain ⟨x, hxe⟩ : ∃ x, xs[k]? = some x := ⟨_, List.getElem?_eq_getElem (by rw [HN.out]; exact hlt)⟩
      have hcell := HX.out k x hxe
      rw [Nat.zero_add] at hcell
      have hxz : x.size ≤ 1000 := Nat.le_trans (jk_part hxe) HL.out
      have hjz : (jk xs k).size ≤ 1000 := Nat.le_trans (jk_size xs k) HL.out
      by_cases h0 : k = 0
      · subst h0
        have R := jk_one hxe
        have hemp : ∀ y : ByteArray, (⟨#[]⟩ : ByteArray) ++ y = y := fun y => by rw [← ofL_bs ((⟨#[]⟩ : ByteArray) ++ y)]; simp [bs]
        rw [jk_zero] at hjz ⊢
        have hx2 := hemp x
        have HR := Lib.hid R
        clear R hxe hemp
        go_wp2_with fail
        go_roundw
        case rel => exact ⟨1, by omega, by rw [HR.out], by go_num, trivial⟩
        case measure => simp [intOf]; omega
      · have R := jk_succ (by omega) hxe
        have hk0 : decide ((0 : Int) < (k : Int)) = true := decide_eq_true (by omega)
        obtain ⟨t, ht⟩ : ∃ t, jk xs k = t := ⟨_, rfl⟩
        rw [ht] at R hjz ⊢
        have HR := Lib.hid R
        clear R hxe ht
        go_wp2_with fail
        go_roundw
        case rel => exact ⟨k + 1, by omega, by rw [HR.out]; rfl, by go_num, trivial⟩
        case measure => simp [intOf]; omega
    · obtain rfl : k = n := by omega
      have R : jk xs k = joinB xs := by rw [← HN.out]; exact jk_all xs
      rw [R]
      go_wp2_with fail
      go_ret
      exact ⟨rfl, rfl⟩
end Go.Proofs.YtkoaeldlflncpaaDoor
