/-
  The contracts of the reference's IsGroup, Qualifiers, First, Generation, Split and Texts.
-/
import Derived.Test.YtkoaeldlflncpaaDoorRefValid
import Derived.Test.YtkoaeldlflncpaaDoorGens
import Derived.Lib.MinMax
import Derived.Deep.QuietTactic
import Derived.BigQuiet
namespace Go.Proofs.YtkoaeldlflncpaaDoor
open Go.RowKit Go.PlainAid

theorem drewN_add (w : World) (a b : Nat) : ∃ q, (w.drewN a).drewN b = w.drewN q := by
  refine ⟨a + b, ?_⟩
  induction b with
  | zero => rfl
  | succ b ih => show ((w.drewN a).drewN b).drew = (w.drewN (a + b)).drew; rw [ih]

/-! IsGroup. -/
theorem group_no {s : ByteArray} {k : Nat} {x : ByteArray} (h : (parts s)[k]? = some x) (hx : genQ x = true) : groupB s = false := by
  have : (parts s).any genQ = true := List.any_eq_true.2 ⟨x, List.mem_of_getElem? h, hx⟩
  unfold groupB; rw [this]; simp
theorem group_yes {s : ByteArray} (h1 : s.size ≤ 22) (h2 : validB s = true) (h : ∀ (j : Nat) x, j < (parts s).length → (parts s)[j]? = some x → genQ x = false) : groupB s = true := by
  have : (parts s).any genQ = false := List.any_eq_false.2 fun x hx => by
    obtain ⟨j, hj, rfl⟩ := List.mem_iff_getElem.1 hx
    rw [h j _ hj (List.getElem?_eq_getElem hj)]; decide
  unfold groupB; rw [this, h2]; simp [h1]
set_option maxHeartbeats 1000000 in
theorem refGroup_any (s : ByteArray) (w : World) : Calls Tryd.prog 28 #[.string s] w fun e w' => e = .returned (.bool (groupB s)) ∧ Below w.heap.size w w' := by
  cases hv : validB s with
  | false =>
    have R : groupB s = false := by unfold groupB; rw [hv]; simp
    go_enter Tryd.func28, Tryd.ntmps28
    go_wp2_with (go_at_call 27; refine (refValid_any s _).mono ?_; rw [hv]; rintro e w' ⟨rfl, hb⟩)
    go_ret
    exact ⟨by rw [R]; rfl, hb⟩
  | true =>
    by_cases hz : 22 < s.size
    · have R : groupB s = false := by unfold groupB; rw [decide_eq_false (show ¬ s.size ≤ 22 by omega)]; rfl
      have hz' : decide ((22 : Int) < (s.size : Int)) = true := decide_eq_true (by omega)
      go_enter Tryd.func28, Tryd.ntmps28
      go_wp2_with (go_at_call 27; refine (refValid_any s _).mono ?_; rw [hv]; rintro e w' ⟨rfl, hb⟩)
      go_ret
      exact ⟨by rw [R]; rfl, hb⟩
    have hz' : decide ((22 : Int) < (s.size : Int)) = false := decide_eq_false (by omega)
    obtain ⟨N, hN⟩ : ∃ N, (parts s).length = N := ⟨_, rfl⟩
    have hNb : N ≤ 32 := by have := parts_few s; omega
    have SP := Lib.hid fun w => refParts_form s w (by omega)
    rw [hN] at SP
    have HN := Lib.hid hN
    clear hN
    go_enter Tryd.func28, Tryd.ntmps28
    go_wp2_with fail
    refine (refValid_any s _).mono ?_
    rw [hv]
    rintro e w1 ⟨rfl, hb⟩
    have B1 := Lib.hid hb
    clear hb
    go_wp2_with fail
    refine (SP.out w1).mono ?_
    rintro e w2 ⟨g, c, rfl, hg, hgl, hc, ht, hb⟩
    have HB := Lib.hid (B1.out.trans (hb.mono B1.out.size))
    have HT := Lib.hid ht
    clear hb ht SP
    go_wp2_with fail
    go_loopw [4] (fun i wr => ∃ j : Nat, j ≤ N ∧ i = .int .i64 j ∧ wr = w2 ∧ Hid (∀ (n : Nat) x, n < j → (parts s)[n]? = some x → genQ x = false)) (fun i _ => N - (intOf i).toNat)
    case atStart => exact ⟨0, by omega, rfl, rfl, Lib.hid fun n x hn => absurd hn (by omega)⟩
    case round =>
      obtain ⟨j, hj, rfl, rfl, HP⟩ := hrel
      by_cases hlt : j < N
      · obtain ⟨x, hx⟩ : ∃ x, (parts s)[j]? = some x := ⟨_, List.getElem?_eq_getElem (by rw [HN.out]; exact hlt)⟩
        have hcell := HT.out.c j x hx
        rw [Nat.zero_add] at hcell
        have HX := Lib.hid hx
        clear hx
        obtain ⟨nx, hnx⟩ : ∃ nx, numB x = nx := ⟨_, rfl⟩
        have HQ := Lib.hid hnx
        cases hd : genQ x with
        | true =>
          have hd' : decide (0 < nx) = true := by rw [← hnx]; exact hd
          have R := Lib.hid (group_no HX.out hd)
          clear hd hnx
          go_wp2_with (go_at_call 68; refine (refNumber_any x _).mono ?_; rw [HQ.out]; rintro e w' ⟨rfl, rfl⟩)
          go_ret
          exact ⟨by rw [R.out]; rfl, HB.out⟩
        | false =>
          have hd' : decide (0 < nx) = false := by rw [← hnx]; exact hd
          have HD := Lib.hid hd
          clear hd hnx
          go_wp2_with (go_at_call 68; refine (refNumber_any x _).mono ?_; rw [HQ.out]; rintro e w' ⟨rfl, rfl⟩)
          go_roundw
          case rel => exact ⟨j + 1, by omega, by go_num, trivial, Lib.hid fun n y hn hy => by
            by_cases e : n = j
            · subst e; rw [HX.out] at hy; cases hy; exact HD.out
            · exact HP.out n y (by omega) hy⟩
          case measure => simp [intOf]; omega
      · have R := Lib.hid (group_yes (s := s) (by omega) hv (fun n x hn => HP.out n x (by have := HN.out; omega)))
        go_wp2_with fail
        go_ret
        exact ⟨by rw [R.out]; rfl, HB.out⟩

/-! Qualifiers and First. -/
/-- A list of texts that the reference hands back. -/
def RefList (w : World) (lo : Nat) (xs : List ByteArray) (v : Value) : Prop :=
  (xs = [] ∧ v = .slice none 0 0) ∨ (xs ≠ [] ∧ ∃ B c, lo ≤ B ∧ B < w.heap.size ∧ xs.length ≤ c ∧ v = .slice (some ⟨B, 0, none⟩) xs.length c ∧ TextsAt w B 0 xs)
theorem refQuals_any (s : ByteArray) (w : World) : Calls Tryd.prog 31 #[.string s] w fun e w' => ∃ v, e = .returned v ∧ Below w.heap.size w w' ∧ RefList w' w.heap.size (qualsB s) v := by
  cases h : validB s with
  | false =>
    have R : qualsB s = [] := by simp [qualsB, h]
    go_enter Tryd.func31, Tryd.ntmps31
    go_wp2_with (go_at_call 27; refine (refValid_any s w).mono ?_; rw [h]; rintro e w' ⟨rfl, hb⟩)
    go_ret
    exact ⟨_, rfl, hb, Or.inl ⟨R, rfl⟩⟩
  | true =>
    have R : qualsB s = parts s := by simp [qualsB, h]
    have hz := validB_size h
    go_enter Tryd.func31, Tryd.ntmps31
    go_wp2_with fail
    refine (refValid_any s w).mono ?_
    rw [h]
    rintro e w1 ⟨rfl, hb⟩
    have B1 := Lib.hid hb
    clear hb
    go_wp2_with fail
    refine (refParts_form s w1 (by omega)).mono ?_
    rintro e w2 ⟨g, c, rfl, hg, hgl, hc, ht, hb⟩
    have HB := Lib.hid (B1.out.trans (hb.mono B1.out.size))
    have HT := Lib.hid ht
    have hg' := Nat.le_trans B1.out.size hg
    clear hb ht
    go_wp2_with fail
    go_ret
    exact ⟨_, rfl, HB.out, Or.inr ⟨by rw [R]; exact parts_ne s, g, c, hg', hgl, by rw [R]; exact hc, by rw [R]; rfl, by rw [R]; exact HT.out.c⟩⟩
set_option maxHeartbeats 1000000 in
theorem refFirst_any (n : Int) (s : ByteArray) (w : World) : Calls Tryd.prog 32 #[.int .i64 n, .string s] w fun e w' => e = .returned (.string (firstB n s)) ∧ Below w.heap.size w w' := by
  obtain ⟨xs, hxs⟩ : ∃ xs, qualsB s = xs := ⟨_, rfl⟩
  have Q := Lib.hid (refQuals_any s w)
  have hN : (qualsB s).length ≤ 32 := by
    unfold qualsB; split
    · have := parts_few s
      have := validB_size (by assumption)
      omega
    · simp
  have hJ : ∀ m, (joinL (((qualsB s).take m).map bs)).length ≤ 1000 := fun m => by
    unfold qualsB; split
    · have := join_parts_size s m
      have := validB_size (by assumption)
      omega
    · simp [joinL]
  have R : firstB n s = joinB (xs.take (min (max n 0) (xs.length : Int)).toNat) := by rw [firstB, hxs]
  rw [hxs] at Q hN hJ
  obtain ⟨m, hm⟩ : ∃ m : Nat, max 0 (min n (xs.length : Int)) = m := ⟨(max 0 (min n (xs.length : Int))).toNat, by omega⟩
  have hm2 : min (max n 0) (xs.length : Int) = m := by omega
  have hml : m ≤ xs.length := by omega
  rw [hm2, Int.toNat_natCast] at R
  have hJ := Lib.hid (hJ m)
  have R := Lib.hid R
  clear hxs hm2
  by_cases he : xs = []
  · subst he
    have hm0 : m = 0 := by simpa using hml
    subst hm0
    have hm1 : max 0 (min n 0) = 0 := by omega
    have Q0 := Lib.hid (Q.out.mono (R' := fun e w1 => e = .returned (.slice none 0 0) ∧ Below w.heap.size w w1) (by
      rintro e w1 ⟨v, rfl, hb, ⟨_, rfl⟩ | ⟨hne, _⟩⟩
      · exact ⟨rfl, hb⟩
      · exact absurd rfl hne))
    go_enter Tryd.func32, Tryd.ntmps32
    go_wp2_with (first | (go_at_call 31; refine Q0.out.mono ?_; rintro e w1 ⟨rfl, hb⟩) | (go_at_call 67; refine (refJoin_nil _).mono ?_; rintro e w' ⟨rfl, rfl⟩))
    go_ret
    exact ⟨by rw [R.out]; rfl, hb⟩
  · have Q1 := Lib.hid (Q.out.mono (R' := fun e w1 => ∃ B c, e = .returned (.slice (some ⟨B, 0, none⟩) xs.length c) ∧ xs.length ≤ c ∧ TextsAt w1 B 0 xs ∧ Below w.heap.size w w1) (by
      rintro e w1 ⟨v, rfl, hb, ⟨h0, _⟩ | ⟨_, B, c, hB0, hB, hc, rfl, ht⟩⟩
      · exact absurd h0 he
      · exact ⟨B, c, rfl, hc, ht, hb⟩))
    obtain ⟨N, hNe⟩ : ∃ N, xs.length = N := ⟨_, rfl⟩
    have HE := Lib.hid hNe
    rw [hNe] at Q1 hN hm hml
    clear hNe Q
    go_enter Tryd.func32, Tryd.ntmps32
    go_wp2_with fail
    refine Q1.out.mono ?_
    rintro e w1 ⟨B, c, rfl, hc, ht, hb⟩
    have HT := Lib.hid ht
    have HB := Lib.hid hb
    clear ht hb
    have hmc : m ≤ c := by omega
    go_wp2_with fail
    refine (refJoin_any B m c (xs.take m) _ (HT.out.take m) (by rw [List.length_take, HE.out]; omega) hJ.out (by omega)).mono ?_
    rintro e w' ⟨rfl, rfl⟩
    go_wp2_with fail
    go_ret
    exact ⟨by rw [R.out]; rfl, HB.out⟩

/-! Generation. -/
theorem genText_cat (g : ByteArray) (k : Nat) : g ++ ⟨#[46, 71]⟩ ++ ⟨(digs k 4).toArray⟩ ++ ⟨#[86, 48, 48]⟩ = genText g k := by
  apply ByteArray.ext
  rw [genText]
  simp
theorem refGen_any (g : ByteArray) (n : Int) (w : World) : Calls Tryd.prog 25 #[.string g, .int .i64 n] w fun e w' => e = genE (genV g n) ∧ Below w.heap.size w w' := by
  cases hg : groupB g with
  | false =>
    have R : genV g n = (⟨#[]⟩, 1) := by simp [genV, hg]
    go_enter Tryd.func25, Tryd.ntmps25
    go_wp2_with (go_at_call 28; refine (refGroup_any g _).mono ?_; rw [hg]; rintro e w' ⟨rfl, hb⟩)
    go_ret2
    exact ⟨by rw [R]; rfl, hb⟩
  | true =>
    by_cases h1 : n < 1
    · have R : genV g n = (⟨#[]⟩, 2) := by simp [genV, hg, h1]
      go_enter Tryd.func25, Tryd.ntmps25
      go_wp2_with (go_at_call 28; refine (refGroup_any g _).mono ?_; rw [hg]; rintro e w' ⟨rfl, hb⟩)
      go_ret2
      exact ⟨by rw [R]; rfl, hb⟩
    by_cases h2 : 9999 < n
    · have R : genV g n = (⟨#[]⟩, 2) := by simp [genV, hg, h2]
      have h1' : decide (n < 1) = false := by simpa using h1
      go_enter Tryd.func25, Tryd.ntmps25
      go_wp2_with (go_at_call 28; refine (refGroup_any g _).mono ?_; rw [hg]; rintro e w' ⟨rfl, hb⟩)
      go_ret2
      exact ⟨by rw [R]; rfl, hb⟩
    obtain ⟨k, rfl⟩ : ∃ k : Nat, n = k := ⟨n.toNat, by omega⟩
    have R : genV g k = (genText g k, 0) := by simp [genV, hg, h1, h2]
    have h1' : decide ((k : Int) < 1) = false := by simpa using h1
    have h2' : decide ((9999 : Int) < k) = false := by simpa using h2
    have hgz := groupB_size hg
    have hk : k ≤ 9999 := by omega
    obtain ⟨t, ht⟩ : ∃ t : ByteArray, ⟨(digs k 4).toArray⟩ = t := ⟨_, rfl⟩
    have htz : t.size ≤ 4 := by rw [← ht]; exact Nat.le_of_eq (digs_length k 4)
    have DG := Lib.hid fun w => digits_any k 4 w (by omega) (by decide) (by omega)
    have C := genText_cat g k
    rw [ht] at DG C
    have C := Lib.hid C
    clear ht h1 h2
    go_enter Tryd.func25, Tryd.ntmps25
    go_wp2_with fail
    refine (refGroup_any g _).mono ?_
    rw [hg]
    rintro e w1 ⟨rfl, hb⟩
    have B1 := Lib.hid hb
    clear hb
    go_wp2_with fail
    refine (DG.out w1).mono ?_
    rintro e w2 ⟨rfl, hb⟩
    have B2 := Lib.hid (B1.out.trans (hb.mono B1.out.size))
    clear hb
    go_wp2_with fail
    go_ret2
    refine ⟨?_, B2.out⟩
    rw [R, ← C.out]
    rfl

/-! Split. -/
theorem split_parts (s : ByteArray) (us : List ByteArray) (v : ByteArray) (h : parts s = us ++ [v]) : splitV s = if groupB (joinB us) = true ∧ numB v ≠ 0 then (joinB us, numB v, true) else (⟨#[]⟩, 0, false) := by
  have hb : partsL (bs s) = us.map bs ++ [bs v] := by rw [← parts_bs, h]; simp
  have hnv : 46 ∉ bs v := partsL_nodot (bs s) (bs v) (by rw [hb]; simp)
  have hs : bs s = joinL (us.map bs ++ [bs v]) := by rw [← hb, join_parts]
  by_cases he : us = []
  · subst he
    have h0 : groupB (joinB []) = false := by rw [group_bs]; rfl
    rw [h0, split_nodot (by rw [hs]; exact hnv)]
    simp
  · have hne : us.map bs ≠ [] := fun e => he (List.map_eq_nil_iff.1 e)
    rw [split_last (u := joinL (us.map bs)) (v := bs v) (by rw [hs, joinL_app _ _ hne]) hnv, group_bs, num_bs, joinB, bs_ofL]
set_option maxHeartbeats 2000000 in
set_option maxRecDepth 100000 in
theorem refSplit_any (s : ByteArray) (w : World) (hs : s.size ≤ 100) : Calls Tryd.prog 26 #[.string s] w fun e w' => e = splitE (splitV s) ∧ Below w.heap.size w w' := by
  obtain ⟨us, v, hp⟩ : ∃ us v, parts s = us ++ [v] := ⟨_, _, (List.dropLast_concat_getLast (parts_ne s)).symm⟩
  have R0 := split_parts s us v hp
  obtain ⟨M, hM⟩ : ∃ M, us.length = M := ⟨_, rfl⟩
  have hlen : (parts s).length = M + 1 := by rw [hp, ← hM]; simp
  have hMb : M ≤ 101 := by have := parts_few s; omega
  have hJ : (joinL (us.map bs)).length ≤ 1000 := by
    have := join_parts_size s M
    rw [hp, List.take_left' hM] at this
    omega
  have SP := Lib.hid (refParts_form s w (by omega))
  rw [hlen] at SP
  have HP := Lib.hid hp
  have HM := Lib.hid hM
  have HJ := Lib.hid hJ
  obtain ⟨t, ht⟩ : ∃ t, joinB us = t := ⟨_, rfl⟩
  rw [ht] at R0
  have HT := Lib.hid ht
  have hwr : IntKind.i64.wrap (M : Int) = (M : Int) := by have := i64_lin 0 M 0 (by omega); simpa using this
  have hM1 : (M : Int) < (M : Int) + 1 := by omega
  clear hp hM hJ ht hlen
  obtain ⟨nv, hnv⟩ : ∃ nv, numB v = nv := ⟨_, rfl⟩
  rw [hnv] at R0
  have HV := Lib.hid hnv
  clear hnv
  go_enter Tryd.func26, Tryd.ntmps26
  go_wp2_with fail
  refine SP.out.mono ?_
  rintro e w1 ⟨g, c, rfl, hg, hgl, hc, ho, hb⟩
  have B1 := Lib.hid hb
  have hx := ho.c M v (by rw [HP.out, ← HM.out]; simp)
  rw [Nat.zero_add] at hx
  have JN := Lib.hid fun q => (show Calls Tryd.prog 67 #[.slice (some ⟨g, 0, none⟩) M c] (w1.drewN q) fun e w' => e = .returned (.string t) ∧ w' = w1.drewN q from
    (refJoin_any g M c us (w1.drewN q) (fun j x hj => ho.c j x (by rw [HP.out, List.getElem?_append_left (List.getElem?_eq_some_iff.1 hj).1]; exact hj)) HM.out HJ.out (by omega)).mono fun e w' h => ⟨by rw [h.1, HT.out], h.2.symm⟩)
  clear hb ho SP
  have hMc : M ≤ c := by omega
  have NB := Lib.hid fun q => (show Calls Tryd.prog 68 #[.string v] (w1.drewN q) fun e w' => e = .returned (.int .i64 nv) ∧ w' = w1.drewN q from
    (refNumber_any v (w1.drewN q)).mono fun e w' h => ⟨by rw [h.1, HV.out], h.2.symm⟩)
  go_wp2_with fail
  go_quiet (first | (go_at_call 67; refine Calls.quiet_of_same (JN.out _)) | (go_at_call 68; refine Calls.quiet_of_same (NB.out _)))
  have B2 := Lib.hid (below_drewN B1.out nq)
  generalize w1.drewN nq = w2 at B2 ⊢
  by_cases hn : nv = 0
  · have hn' : (nv == 0) = true := by simpa using hn
    have R : splitV s = (⟨#[]⟩, 0, false) := by rw [R0, if_neg fun h => h.2 hn]
    clear R0 hn
    go_wp2_with fail
    go_ret3
    exact ⟨by rw [R]; rfl, B2.out⟩
  · have hn' : (nv == 0) = false := by simpa using hn
    cases hg : groupB t with
    | false =>
      have R : splitV s = (⟨#[]⟩, 0, false) := by rw [R0, if_neg fun h => by rw [hg] at h; cases h.1]
      clear R0 hn
      go_wp2_with (go_at_call 28; refine (refGroup_any t _).mono ?_; rw [hg]; rintro e w' ⟨rfl, hb⟩)
      go_ret3
      exact ⟨by rw [R]; rfl, B2.out.trans (hb.mono B2.out.size)⟩
    | true =>
      have R : splitV s = (t, nv, true) := by rw [R0, if_pos ⟨hg, hn⟩]
      clear R0 hn
      go_wp2_with (go_at_call 28; refine (refGroup_any t _).mono ?_; rw [hg]; rintro e w' ⟨rfl, hb⟩)
      go_ret3
      exact ⟨by rw [R]; rfl, B2.out.trans (hb.mono B2.out.size)⟩

/-! Texts. -/
theorem texts_nil (w : World) : Calls Tryd.prog 30 #[.slice none 0 0, .slice none 0 0] w fun e w' => e = .returned (.bool true) ∧ w = w' := by
  go_enter Tryd.func30, Tryd.ntmps30
  go_wp2_with fail
  go_loopw [5] (fun i wr => i = .int .i64 0 ∧ wr = w) (fun _ _ => 0)
  case atStart => exact ⟨rfl, rfl⟩
  case round =>
    obtain ⟨rfl, rfl⟩ := hrel
    go_wp2_with fail
    go_ret
    exact ⟨rfl, rfl⟩
set_option maxHeartbeats 1000000 in
theorem texts_same (xs : List ByteArray) (N B c B' c' : Nat) (w : World) (hN : xs.length = N) (hz : N ≤ 100) (h : TextsAt w B 0 xs) (h' : TextsAt w B' 0 xs) :
    Calls Tryd.prog 30 #[.slice (some ⟨B, 0, none⟩) N c, .slice (some ⟨B', 0, none⟩) N c'] w fun e w' => e = .returned (.bool true) ∧ ∃ q, w' = w.drewN q := by
  have HN := Lib.hid hN
  have H := Lib.hid h
  have H' := Lib.hid h'
  clear hN h h'
  go_enter Tryd.func30, Tryd.ntmps30
  go_wp2_with fail
  go_loopw [5] (fun i wr => ∃ j q : Nat, j ≤ N ∧ i = .int .i64 j ∧ wr = w.drewN q) (fun i _ => N - (intOf i).toNat)
  case atStart => exact ⟨0, 0, by omega, rfl, rfl⟩
  case round =>
    obtain ⟨j, q, hj, rfl, rfl⟩ := hrel
    by_cases hlt : j < N
    · obtain ⟨x, hx⟩ : ∃ x, xs[j]? = some x := ⟨_, List.getElem?_eq_getElem (by rw [HN.out]; exact hlt)⟩
      have hc : (w.drewN q).cell? ⟨B, j, none⟩ = some (.string x) := by have := H.out j x hx; rw [Nat.zero_add] at this; exact this
      have hc' : (w.drewN q).cell? ⟨B', j, none⟩ = some (.string x) := by have := H'.out j x hx; rw [Nat.zero_add] at this; exact this
      clear hx
      have HQ := Lib.hid (show ∀ n, ∃ q', (w.drewN q).drewN n = w.drewN q' from fun n => drewN_add w q n)
      generalize w.drewN q = w2 at hc hc' HQ ⊢
      go_wp2_with fail
      go_quiet (fail)
      obtain ⟨q', hq'⟩ := HQ.out nq
      have HQ' := Lib.hid hq'
      clear hq'
      go_wp2_with fail
      go_roundw
      case rel => exact ⟨j + 1, q', by omega, by go_num, HQ'.out⟩
      case measure => simp [intOf]; omega
    · go_wp2_with fail
      go_ret
      exact ⟨rfl, q, rfl⟩
end Go.Proofs.YtkoaeldlflncpaaDoor
