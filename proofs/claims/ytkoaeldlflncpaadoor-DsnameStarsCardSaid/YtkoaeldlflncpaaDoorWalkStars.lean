/-
  The walk of the law DsnameStars: it returns true for every three texts and three bytes.
-/
import Derived.Test.YtkoaeldlflncpaaDoorStarred
import Derived.Test.YtkoaeldlflncpaaDoorJoint
import Derived.Test.YtkoaeldlflncpaaDoorAwake
import Derived.Lib.MinMax
import Derived.StillTailTactics
import Derived.Deep.QuietTactic
import Derived.BigQuiet
namespace Go.Proofs.YtkoaeldlflncpaaDoor
open Go.RowKit Go.PlainAid

theorem two_match {s : ByteArray} (hs : validB s = true) : matchB ss s = true := by
  rw [match_bs]; exact two_all (by rw [← valid_bs]; exact hs)
theorem name_match {s o : ByteArray} (hs : validB s = true) (ho : validB o = true) : matchB s o = (s.toList == o.toList) := by
  have h := name_self (a := bs s) (b := bs o) (by rw [← valid_bs]; exact hs) (by rw [← valid_bs]; exact ho)
  rw [match_bs, toList_bs, toList_bs, Bool.eq_iff_iff, h, beq_iff_eq]
/-- A pattern's list with place k set. -/
def qset (p : ByteArray) (k : Nat) (y : ByteArray) : List ByteArray := (parts p).set k y
theorem qset_bs (p : ByteArray) (k : Nat) (y : ByteArray) : (qset p k y).map bs = (partsL (bs p)).set k (bs y) := by
  rw [qset, List.map_set, parts_bs]
theorem part_bs {p x : ByteArray} {k : Nat} (h : (parts p)[k]? = some x) : (partsL (bs p))[k]? = some (bs x) := by
  rw [← parts_bs, List.getElem?_map, h]; rfl
def star1 : ByteArray := ⟨#[42]⟩
theorem star_walk {p s x : ByteArray} {k : Nat} (h : matchB p s = true) (hk : (parts p)[k]? = some x) (hx : (x.toList == [42, 42]) = false) : matchB (joinB (qset p k star1)) s = true := by
  rw [match_bs] at h ⊢
  rw [joinB, bs_ofL, qset_bs]
  exact star_law h (part_bs hk) (by unfold isSSL; rw [← toList_bs]; exact hx)
/-- A qualifier whose bytes from i to j are a star. -/
def starB (x : ByteArray) (i j : Nat) : ByteArray := x.extract 0 i ++ star1 ++ x.extract j x.size
theorem starB_bs (x : ByteArray) (i j : Nat) : bs (starB x i j) = starred (bs x) i j := by
  have h1 : bs (x.extract 0 i) = (bs x).take i := by simp [bs, ByteArray.data_extract]
  have h2 : bs (x.extract j x.size) = (bs x).drop j := by
    have : (bs x).drop j = ((bs x).drop j).take (x.size - j) := by
      rw [List.take_of_length_le]; rw [List.length_drop, bs_length]; exact Nat.le_refl _
    rw [this]
    simp [bs, ByteArray.data_extract, List.take_drop]
  rw [starB, bs_app, bs_app, h1, h2, starred]; simp [star1, bs]
theorem starred_walk {p s x : ByteArray} {k i j : Nat} (h : matchB p s = true) (hk : (parts p)[k]? = some x) (hx : (x.toList == [42, 42]) = false) (hij : i ≤ j) (hq : patB (joinB (qset p k (starB x i j))) = true) (hy : ((starB x i j).toList == [42, 42]) = false) :
    matchB (joinB (qset p k (starB x i j))) s = true := by
  rw [match_bs] at h ⊢
  rw [pat_bs] at hq
  rw [joinB, bs_ofL, qset_bs, starB_bs] at hq ⊢
  exact starred_law h (part_bs hk) (by unfold isSSL; rw [← toList_bs]; exact hx) hij hq (by unfold isSSL; rw [← starB_bs, ← toList_bs]; exact hy)
theorem joinL_le_set (xs : List (List UInt8)) (k : Nat) (y : List UInt8) : (joinL (xs.set k y)).length ≤ (joinL xs).length + y.length := by
  induction xs generalizing k with
  | nil => simp
  | cons x r ih =>
    cases k with
    | zero => rw [List.set_cons_zero, join_head, join_head]; simp only [List.length_append]; omega
    | succ k =>
      rw [List.set_cons_succ, join_head, join_head]
      have hr : (r.set k y = []) ↔ r = [] := by rw [List.set_eq_nil_iff]
      by_cases e : r = []
      · simp [e]
      · rw [if_neg e, if_neg fun h => e (hr.1 h)]
        have := ih k
        simp only [List.length_append, List.length_cons]
        omega
theorem qset_len (p : ByteArray) (k : Nat) (y : ByteArray) : (joinL ((qset p k y).map bs)).length ≤ p.size + y.size := by
  rw [qset_bs]
  have := joinL_le_set (partsL (bs p)) k (bs y)
  rw [join_parts, bs_length, bs_length] at this
  exact this
theorem stars_long (p s o : ByteArray) (a b c : Int) (w : World) (hm : MaxLen w) (ht : Tab w) (hz : 31 < p.size) :
    Calls Tryd.prog 6 #[.string p, .string s, .string o, .int .u8 a, .int .u8 b, .int .u8 c] w fun e w' => e = .returned (.bool true) ∧ Below w.heap.size w w' := by
  have HM := Lib.hid hm
  have HT := Lib.hid ht
  clear hm ht
  have hz' : decide ((31 : Int) < (p.size : Int)) = true := by simp; omega
  go_enter Tryd.func6, Tryd.ntmps6
  go_wp2_with fail
  refine (awake_true _ HM.out HT.out).mono ?_
  rintro e w1 ⟨rfl, hb⟩
  have B1 := Lib.hid hb
  have M1 := Lib.hid (HM.out.below B1.out)
  have T1 := Lib.hid (HT.out.below B1.out)
  clear hb
  go_wp2_with fail
  go_ret
  exact ⟨rfl, B1.out⟩
theorem stars_no1 (p s o : ByteArray) (a b c : Int) (w : World) (hm : MaxLen w) (ht : Tab w) (hz : p.size ≤ 31) (hs : validB s = false) :
    Calls Tryd.prog 6 #[.string p, .string s, .string o, .int .u8 a, .int .u8 b, .int .u8 c] w fun e w' => e = .returned (.bool true) ∧ Below w.heap.size w w' := by
  have HM := Lib.hid hm
  have HT := Lib.hid ht
  clear hm ht
  have hz' : decide ((31 : Int) < (p.size : Int)) = false := by simp; omega
  go_enter Tryd.func6, Tryd.ntmps6
  go_wp2_with fail
  refine (awake_true _ HM.out HT.out).mono ?_
  rintro e w1 ⟨rfl, hb⟩
  have B1 := Lib.hid hb
  have M1 := Lib.hid (HM.out.below B1.out)
  have T1 := Lib.hid (HT.out.below B1.out)
  clear hb
  go_wp2_with fail
  refine (valid_any s _ M1.out).mono ?_
  rw [hs]
  rintro e w2 ⟨rfl, hb⟩
  have B2 := Lib.hid (B1.out.trans (hb.mono B1.out.size))
  have M2 := Lib.hid (HM.out.below B2.out)
  clear hb
  go_wp2_with fail
  go_ret
  exact ⟨rfl, B2.out⟩
theorem stars_no2 (p s o : ByteArray) (a b c : Int) (w : World) (hm : MaxLen w) (ht : Tab w) (hz : p.size ≤ 31) (hs : validB s = true) (ho : validB o = false) :
    Calls Tryd.prog 6 #[.string p, .string s, .string o, .int .u8 a, .int .u8 b, .int .u8 c] w fun e w' => e = .returned (.bool true) ∧ Below w.heap.size w w' := by
  have HM := Lib.hid hm
  have HT := Lib.hid ht
  clear hm ht
  have hz' : decide ((31 : Int) < (p.size : Int)) = false := by simp; omega
  go_enter Tryd.func6, Tryd.ntmps6
  go_wp2_with fail
  refine (awake_true _ HM.out HT.out).mono ?_
  rintro e w1 ⟨rfl, hb⟩
  have B1 := Lib.hid hb
  have M1 := Lib.hid (HM.out.below B1.out)
  have T1 := Lib.hid (HT.out.below B1.out)
  clear hb
  go_wp2_with fail
  refine (valid_any s _ M1.out).mono ?_
  rw [hs]
  rintro e w2 ⟨rfl, hb⟩
  have B2 := Lib.hid (B1.out.trans (hb.mono B1.out.size))
  have M2 := Lib.hid (HM.out.below B2.out)
  clear hb
  go_wp2_with fail
  refine (valid_any o _ M2.out).mono ?_
  rw [ho]
  rintro e w3 ⟨rfl, hb⟩
  have B3 := Lib.hid (B2.out.trans (hb.mono B2.out.size))
  have M3 := Lib.hid (HM.out.below B3.out)
  clear hb
  go_wp2_with fail
  go_ret
  exact ⟨rfl, B3.out⟩
theorem stars_nomatch (p s o : ByteArray) (a b c : Int) (w : World) (hm : MaxLen w) (ht : Tab w) (hz : p.size ≤ 31) (hs : validB s = true) (ho : validB o = true) (hpm : matchB p s = false) :
    Calls Tryd.prog 6 #[.string p, .string s, .string o, .int .u8 a, .int .u8 b, .int .u8 c] w fun e w' => e = .returned (.bool true) ∧ Below w.heap.size w w' := by
  have HM := Lib.hid hm
  have HT := Lib.hid ht
  clear hm ht
  have hz' : decide ((31 : Int) < (p.size : Int)) = false := by simp; omega
  have MM := two_match hs
  have NM := name_match hs ho
  obtain ⟨v, hv⟩ : ∃ v, (s.toList == o.toList) = v := ⟨_, rfl⟩
  rw [hv] at NM
  cases v
  all_goals
    go_enter Tryd.func6, Tryd.ntmps6
    go_wp2_with fail
    refine (awake_true _ HM.out HT.out).mono ?_
    rintro e w1 ⟨rfl, hb⟩
    have B1 := Lib.hid hb
    have M1 := Lib.hid (HM.out.below B1.out)
    have T1 := Lib.hid (HT.out.below B1.out)
    clear hb
    go_wp2_with fail
    refine (valid_any s _ M1.out).mono ?_
    rw [hs]
    rintro e w2 ⟨rfl, hb⟩
    have B2 := Lib.hid (B1.out.trans (hb.mono B1.out.size))
    have M2 := Lib.hid (HM.out.below B2.out)
    clear hb
    go_wp2_with fail
    refine (valid_any o _ M2.out).mono ?_
    rw [ho]
    rintro e w3 ⟨rfl, hb⟩
    have B3 := Lib.hid (B2.out.trans (hb.mono B2.out.size))
    have M3 := Lib.hid (HM.out.below B3.out)
    clear hb
    go_wp2_with fail
    refine (match_any ss s _ M3.out).mono ?_
    rw [MM]
    rintro e w4 ⟨rfl, hb⟩
    have B4 := Lib.hid (B3.out.trans (hb.mono B3.out.size))
    have M4 := Lib.hid (HM.out.below B4.out)
    clear hb
    go_wp2_with fail
    refine (match_any s o _ M4.out).mono ?_
    rw [NM]
    rintro e w5 ⟨rfl, hb⟩
    have B5 := Lib.hid (B4.out.trans (hb.mono B4.out.size))
    have M5 := Lib.hid (HM.out.below B5.out)
    clear hb
    go_wp2_with fail
    refine (match_any p s _ M5.out).mono ?_
    rw [hpm]
    rintro e w6 ⟨rfl, hb⟩
    have B6 := Lib.hid (B5.out.trans (hb.mono B5.out.size))
    have M6 := Lib.hid (HM.out.below B6.out)
    clear hb
    go_wp2_with fail
    go_ret
    exact ⟨rfl, B6.out⟩
set_option maxHeartbeats 1000000 in
theorem stars_two (p s o : ByteArray) (a : Nat) (b c : Int) (w : World) (hm : MaxLen w) (ht : Tab w) (hz : p.size ≤ 31) (hs : validB s = true) (ho : validB o = true) (hpm : matchB p s = true) (N k : Nat) (hN : (parts p).length = N) (hkN : k < N) (ha : Int.tmod (a : Int) (N : Int) = (k : Int)) (ha2 : a ≤ 255) (x : ByteArray) (hx : (parts p)[k]? = some x) (hxs : (x.toList == [42, 42]) = true) :
    Calls Tryd.prog 6 #[.string p, .string s, .string o, .int .u8 a, .int .u8 b, .int .u8 c] w fun e w' => e = .returned (.bool true) ∧ Below w.heap.size w w' := by
  have HM := Lib.hid hm
  have HT := Lib.hid ht
  clear hm ht
  have hz' : decide ((31 : Int) < (p.size : Int)) = false := by simp; omega
  have MM := two_match hs
  have NM := name_match hs ho
  obtain ⟨v, hv⟩ : ∃ v, (s.toList == o.toList) = v := ⟨_, rfl⟩
  rw [hv] at NM
  have hN40 : N ≤ 32 := by have := parts_few p; omega
  have hN0 : ¬ (N : Int) = 0 := by omega
  have HN := Lib.hid hN
  clear hN
  have HX := Lib.hid hx
  clear hx
  cases v
  all_goals
    go_enter Tryd.func6, Tryd.ntmps6
    go_wp2_with fail
    refine (awake_true _ HM.out HT.out).mono ?_
    rintro e w1 ⟨rfl, hb⟩
    have B1 := Lib.hid hb
    have M1 := Lib.hid (HM.out.below B1.out)
    have T1 := Lib.hid (HT.out.below B1.out)
    clear hb
    go_wp2_with fail
    refine (valid_any s _ M1.out).mono ?_
    rw [hs]
    rintro e w2 ⟨rfl, hb⟩
    have B2 := Lib.hid (B1.out.trans (hb.mono B1.out.size))
    have M2 := Lib.hid (HM.out.below B2.out)
    clear hb
    go_wp2_with fail
    refine (valid_any o _ M2.out).mono ?_
    rw [ho]
    rintro e w3 ⟨rfl, hb⟩
    have B3 := Lib.hid (B2.out.trans (hb.mono B2.out.size))
    have M3 := Lib.hid (HM.out.below B3.out)
    clear hb
    go_wp2_with fail
    refine (match_any ss s _ M3.out).mono ?_
    rw [MM]
    rintro e w4 ⟨rfl, hb⟩
    have B4 := Lib.hid (B3.out.trans (hb.mono B3.out.size))
    have M4 := Lib.hid (HM.out.below B4.out)
    clear hb
    go_wp2_with fail
    refine (match_any s o _ M4.out).mono ?_
    rw [NM]
    rintro e w5 ⟨rfl, hb⟩
    have B5 := Lib.hid (B4.out.trans (hb.mono B4.out.size))
    have M5 := Lib.hid (HM.out.below B5.out)
    clear hb
    go_wp2_with fail
    refine (match_any p s _ M5.out).mono ?_
    rw [hpm]
    rintro e w6 ⟨rfl, hb⟩
    have B6 := Lib.hid (B5.out.trans (hb.mono B5.out.size))
    have M6 := Lib.hid (HM.out.below B6.out)
    clear hb
    go_wp2_with fail
    have SP := split_own p _ M6.out (by omega)
    rw [HN.out] at SP
    refine SP.mono ?_
    clear SP
    rintro e w7 ⟨rfl, hb, ho⟩
    obtain ⟨B, hB⟩ : ∃ B, w6.heap.size = B := ⟨_, rfl⟩
    rw [hB] at ho
    rw [hB]
    have hBlt : B < w7.heap.size := texts_lt ho.c (parts_ne p)
    have B7 := Lib.hid (B6.out.trans (hb.mono B6.out.size))
    have hBge : w.heap.size ≤ B := by rw [← hB]; exact B6.out.size
    have M7 := Lib.hid (HM.out.below B7.out)
    have hc := ho.c k x HX.out
    rw [Nat.zero_add] at hc
    have hfr := ho.f k
    have O7 := Lib.hid ho
    clear hb ho hB
    go_wp2_with fail
    go_ret
    exact ⟨rfl, B7.out⟩
theorem OwnTexts.below {w w' : World} {B : Nat} {xs : List ByteArray} (h : OwnTexts w B xs) (hB : B < w.heap.size) (hb : Below w.heap.size w w') : OwnTexts w' B xs :=
  ⟨h.c.below hb, fun j => by rw [hb.frozen hB]; exact h.f j⟩
theorem OwnTexts.qput {w : World} {B k : Nat} {p : ByteArray} (h : OwnTexts w B (parts p)) (y : ByteArray) (hk : k < (parts p).length) : OwnTexts (w.setCell ⟨B, k, none⟩ (.string y)) B (qset p k y) :=
  h.put hk fun n => by
    rw [qset, List.getElem?_set]
    by_cases e : n = k
    · subst e; rw [if_pos rfl, if_pos rfl, if_pos hk]
    · rw [if_neg e, if_neg fun h => e h.symm]
theorem OwnTexts.qput2 {w : World} {B k : Nat} {p y : ByteArray} (h : OwnTexts w B (qset p k y)) (z : ByteArray) (hk : k < (parts p).length) : OwnTexts (w.setCell ⟨B, k, none⟩ (.string z)) B (qset p k z) :=
  h.put (by rw [qset, List.length_set]; exact hk) fun n => by
    rw [qset, qset, List.getElem?_set, List.getElem?_set]
    by_cases e : n = k
    · subst e; rw [if_pos rfl, if_pos rfl, if_pos hk]
    · rw [if_neg e, if_neg (fun h => e h.symm), if_neg fun h => e h.symm]
set_option maxRecDepth 100000 in
set_option maxHeartbeats 4000000 in
theorem stars_main (p s o : ByteArray) (a : Nat) (b c : Nat) (w : World) (hm : MaxLen w) (ht : Tab w) (hz : p.size ≤ 31) (hs : validB s = true) (ho : validB o = true) (hpm : matchB p s = true) (N k : Nat) (hN : (parts p).length = N) (hkN : k < N) (ha : Int.tmod (a : Int) (N : Int) = (k : Int)) (ha2 : a ≤ 255) (x : ByteArray) (hb2 : b ≤ 255) (hc2 : c ≤ 255) (i j I J : Nat) (hbi : Int.tmod (b : Int) ((x.size : Int) + 1) = (i : Int)) (hcj : Int.tmod (c : Int) ((x.size : Int) + 1) = (j : Int)) (hmin : min (i : Int) (j : Int) = (I : Int)) (hmax : max (i : Int) (j : Int) = (J : Int)) (hIJ : I ≤ J) (hJz : J ≤ x.size) (hx : (parts p)[k]? = some x) (hxs : (x.toList == [42, 42]) = false) :
    Calls Tryd.prog 6 #[.string p, .string s, .string o, .int .u8 a, .int .u8 b, .int .u8 c] w fun e w' => e = .returned (.bool true) ∧ Below w.heap.size w w' := by
  have HM := Lib.hid hm
  have HT := Lib.hid ht
  clear hm ht
  have hz' : decide ((31 : Int) < (p.size : Int)) = false := by simp; omega
  have MM := two_match hs
  have NM := name_match hs ho
  obtain ⟨v, hv⟩ : ∃ v, (s.toList == o.toList) = v := ⟨_, rfl⟩
  rw [hv] at NM
  have hN40 : N ≤ 32 := by have := parts_few p; omega
  have hN0 : ¬ (N : Int) = 0 := by omega
  have HN := Lib.hid hN
  clear hN
  have HX := Lib.hid hx
  clear hx
  have hxz : x.size ≤ 31 := by
    have := parts_le (List.mem_of_getElem? HX.out); omega
  have L1 := Lib.hid (qset_len p k star1)
  have S1 := Lib.hid (star_walk hpm HX.out hxs)
  have hql : ∀ y, (qset p k y).length = N := fun y => by unfold qset; rw [List.length_set]; exact HN.out
  have QL := Lib.hid hql
  clear hql
  have hx0 : ¬ ((x.size : Int) + 1) = 0 := by omega
  have hwx : IntKind.i64.wrap ((x.size : Int) + 1) = (x.size : Int) + 1 := by have := i64_lin 0 (x.size + 1) 0 (by omega); simpa using this
  cases v
  all_goals
    go_enter Tryd.func6, Tryd.ntmps6
    go_wp2_with fail
    refine (awake_true _ HM.out HT.out).mono ?_
    rintro e w1 ⟨rfl, hb⟩
    have B1 := Lib.hid hb
    have M1 := Lib.hid (HM.out.below B1.out)
    have T1 := Lib.hid (HT.out.below B1.out)
    clear hb
    go_wp2_with fail
    refine (valid_any s _ M1.out).mono ?_
    rw [hs]
    rintro e w2 ⟨rfl, hb⟩
    have B2 := Lib.hid (B1.out.trans (hb.mono B1.out.size))
    have M2 := Lib.hid (HM.out.below B2.out)
    clear hb
    go_wp2_with fail
    refine (valid_any o _ M2.out).mono ?_
    rw [ho]
    rintro e w3 ⟨rfl, hb⟩
    have B3 := Lib.hid (B2.out.trans (hb.mono B2.out.size))
    have M3 := Lib.hid (HM.out.below B3.out)
    clear hb
    go_wp2_with fail
    refine (match_any ss s _ M3.out).mono ?_
    rw [MM]
    rintro e w4 ⟨rfl, hb⟩
    have B4 := Lib.hid (B3.out.trans (hb.mono B3.out.size))
    have M4 := Lib.hid (HM.out.below B4.out)
    clear hb
    go_wp2_with fail
    refine (match_any s o _ M4.out).mono ?_
    rw [NM]
    rintro e w5 ⟨rfl, hb⟩
    have B5 := Lib.hid (B4.out.trans (hb.mono B4.out.size))
    have M5 := Lib.hid (HM.out.below B5.out)
    clear hb
    go_wp2_with fail
    refine (match_any p s _ M5.out).mono ?_
    rw [hpm]
    rintro e w6 ⟨rfl, hb⟩
    have B6 := Lib.hid (B5.out.trans (hb.mono B5.out.size))
    have M6 := Lib.hid (HM.out.below B6.out)
    clear hb
    go_wp2_with fail
    have SP := split_own p _ M6.out (by omega)
    rw [HN.out] at SP
    refine SP.mono ?_
    clear SP
    rintro e w7 ⟨rfl, hb, ho⟩
    obtain ⟨B, hB⟩ : ∃ B, w6.heap.size = B := ⟨_, rfl⟩
    rw [hB] at ho
    rw [hB]
    have hBlt : B < w7.heap.size := texts_lt ho.c (parts_ne p)
    have B7 := Lib.hid (B6.out.trans (hb.mono B6.out.size))
    have hBge : w.heap.size ≤ B := by rw [← hB]; exact B6.out.size
    have M7 := Lib.hid (HM.out.below B7.out)
    have hc := ho.c k x HX.out
    rw [Nat.zero_add] at hc
    have hfr := ho.f k
    have O7 := Lib.hid ho
    clear hb ho hB
    have O7p := Lib.hid (O7.out.qput star1 (by rw [HN.out]; exact hkN))
    have B7p := Lib.hid (B7.out.setCell (p := ⟨B, k, none⟩) hBge (.string star1))
    have M7p := Lib.hid (HM.out.below B7p.out)
    go_wp2_with fail
    refine (join_any B 0 N N (qset p k star1) _ O7p.out.c (by rw [World.size_setCell]; exact hBlt) (QL.out _) (Nat.le_refl _) (by have := L1.out; have : star1.size = 1 := rfl; omega) (by omega)).mono ?_
    rintro e w9 ⟨rfl, hb⟩
    have B9 := Lib.hid (B7p.out.trans (hb.mono B7p.out.size))
    have M9 := Lib.hid (HM.out.below B9.out)
    have O9 := Lib.hid (O7p.out.below (by rw [World.size_setCell]; exact hBlt) hb)
    have hlt9 := Nat.lt_of_lt_of_le (show B < (w7.setCell ⟨B, k, none⟩ (.string star1)).heap.size by rw [World.size_setCell]; exact hBlt) hb.size
    clear hb
    go_wp2_with fail
    refine (match_any (joinB (qset p k star1)) s _ M9.out).mono ?_
    rw [S1.out]
    rintro e w10 ⟨rfl, hb⟩
    have B10 := Lib.hid (B9.out.trans (hb.mono B9.out.size))
    have M10 := Lib.hid (HM.out.below B10.out)
    have O10 := Lib.hid (O9.out.below hlt9 hb)
    have hlt10 := Nat.lt_of_lt_of_le hlt9 hb.size
    clear hb hc hfr
    go_wp2_with fail
    go_quiet (fail)
    have O11 := Lib.hid (show OwnTexts (w10.drewN nq) B (qset p k star1) from ⟨fun n y hy => O10.out.c n y hy, O10.out.f⟩)
    have B11 := Lib.hid (below_drewN B10.out nq)
    have hlt11 : B < (w10.drewN nq).heap.size := hlt10
    generalize w10.drewN nq = w11 at O11 B11 hlt11 ⊢
    have hc := O11.out.c k star1 (by rw [qset, List.getElem?_set, if_pos rfl, if_pos (by rw [HN.out]; exact hkN)])
    rw [Nat.zero_add] at hc
    have hfr := O11.out.f k
    clear hlt10 hlt9
    obtain ⟨h1, hh1⟩ : ∃ h1, x.extract 0 I = h1 := ⟨_, rfl⟩
    obtain ⟨h2, hh2⟩ : ∃ h2, x.extract J x.size = h2 := ⟨_, rfl⟩
    have hs1 : h1.size ≤ 31 := by rw [← hh1, ByteArray.size_extract]; omega
    have hs2 : h2.size ≤ 31 := by rw [← hh2, ByteArray.size_extract]; omega
    have hIx : (I : Int) ≤ x.size := by omega
    have hJx : (J : Int) ≤ x.size := by omega
    have hkN' : (k : Int) < N := by omega
    have hc1 : ¬ h1.size + 1 > 9223372036854775807 := by omega
    have hc2 : ¬ h1.size + 1 + h2.size > 9223372036854775807 := by omega
    clear hbi hcj
    go_wp2_with fail
    go_still_tail 15, (by kernel_rfl)
    change wpList _ _ _ _ _ w11.drew
    obtain ⟨y, hy⟩ : ∃ y, starB x I J = y := ⟨_, rfl⟩
    have hst : h1 ++ (⟨#[42]⟩ : ByteArray) ++ h2 = y := by rw [← hh1, ← hh2, ← hy]; rfl
    have hyz : y.size ≤ 63 := by rw [← hst, ByteArray.size_append, ByteArray.size_append]; have : (⟨#[42]⟩ : ByteArray).size = 1 := rfl; omega
    have HY := Lib.hid hy
    have O12 := Lib.hid (show OwnTexts (w11.drew.setCell ⟨B, k, none⟩ (.string y)) B (qset p k y) from OwnTexts.qput2 (w := w11.drew) ⟨fun n y hy => O11.out.c n y hy, O11.out.f⟩ _ (by rw [HN.out]; exact hkN))
    have B12 := Lib.hid (B11.out.drew.setCell (p := ⟨B, k, none⟩) hBge (.string y))
    have hc' : w11.drew.cell? ⟨B, k, none⟩ = some (.string star1) := hc
    have hfr' : w11.drew.frozen? ⟨B, k, none⟩ = false := hfr
    have hlt12 : B < w11.drew.heap.size := hlt11
    clear hc hfr O11 B11 hlt11 hy hh1 hh2
    generalize w11.drew = w12 at O12 B12 hc' hfr' hlt12 ⊢
    go_wp2_with fail
    clear hc1 hc2 hst
    refine (join_any B 0 N N (qset p k y) _ O12.out.c (by rw [World.size_setCell]; exact hlt12) (QL.out _) (Nat.le_refl _) (by have := qset_len p k y; omega) (by omega)).mono ?_
    rintro e w13 ⟨rfl, hb⟩
    have B13 := Lib.hid (B12.out.trans (hb.mono B12.out.size))
    have M13 := Lib.hid (HM.out.below B13.out)
    have O13 := Lib.hid (O12.out.below (by rw [World.size_setCell]; exact hlt12) hb)
    have hlt13 := Nat.lt_of_lt_of_le (show B < (w12.setCell ⟨B, k, none⟩ (.string y)).heap.size by rw [World.size_setCell]; exact hlt12) hb.size
    clear hb hc' hfr' hlt12
    cases hpv : patB (joinB (qset p k y)) with
    | false =>
      go_wp2_with fail
      refine (pattern_any (joinB (qset p k y)) _ M13.out).mono ?_
      rw [hpv]
      rintro e w14 ⟨rfl, hb⟩
      have B14 := Lib.hid (B13.out.trans (hb.mono B13.out.size))
      have M14 := Lib.hid (HM.out.below B14.out)
      have O14 := Lib.hid (O13.out.below hlt13 hb)
      clear hb
      go_wp2_with fail
      go_ret
      exact ⟨rfl, B14.out⟩
    | true =>
      go_wp2_with fail
      refine (pattern_any (joinB (qset p k y)) _ M13.out).mono ?_
      rw [hpv]
      rintro e w14 ⟨rfl, hb⟩
      have B14 := Lib.hid (B13.out.trans (hb.mono B13.out.size))
      have M14 := Lib.hid (HM.out.below B14.out)
      have O14 := Lib.hid (O13.out.below hlt13 hb)
      clear hb
      have hc2 := O14.out.c k y (by rw [qset, List.getElem?_set, if_pos rfl, if_pos (by rw [HN.out]; exact hkN)])
      rw [Nat.zero_add] at hc2
      cases hsv : (y.toList == [42, 42]) with
      | true =>
        go_wp2_with fail
        go_ret
        exact ⟨rfl, B14.out⟩
      | false =>
        have R := Lib.hid (show matchB (joinB (qset p k y)) s = true from by have := starred_walk (i := I) (j := J) hpm HX.out hxs hIJ (by rw [HY.out]; exact hpv) (by rw [HY.out]; exact hsv); rw [HY.out] at this; exact this)
        go_wp2_with fail
        refine (match_any (joinB (qset p k y)) s _ M14.out).mono ?_
        rw [R.out]
        rintro e w15 ⟨rfl, hb⟩
        go_wp2_with fail
        go_ret
        exact ⟨rfl, B14.out.trans (hb.mono B14.out.size)⟩
theorem tmod_nat (a n : Nat) : Int.tmod (a : Int) (n : Int) = ((a % n : Nat) : Int) := rfl
/-- The law's walk. -/
theorem stars_walk (p s o : ByteArray) (a b c : Int) (w : World) (hm : MaxLen w) (ht : Tab w) (ha : 0 ≤ a ∧ a ≤ 255) (hb : 0 ≤ b ∧ b ≤ 255) (hc : 0 ≤ c ∧ c ≤ 255) :
    Calls Tryd.prog 6 #[.string p, .string s, .string o, .int .u8 a, .int .u8 b, .int .u8 c] w fun e w' => e = .returned (.bool true) ∧ Below w.heap.size w w' := by
  by_cases hz : 31 < p.size
  · exact stars_long p s o a b c w hm ht hz
  have hz := Nat.le_of_not_lt hz
  cases hs : validB s with
  | false => exact stars_no1 p s o a b c w hm ht hz hs
  | true =>
    cases ho : validB o with
    | false => exact stars_no2 p s o a b c w hm ht hz hs ho
    | true =>
      cases hpm : matchB p s with
      | false => exact stars_nomatch p s o a b c w hm ht hz hs ho hpm
      | true =>
        obtain ⟨a, rfl⟩ : ∃ k : Nat, a = k := ⟨a.toNat, by omega⟩
        obtain ⟨b, rfl⟩ : ∃ k : Nat, b = k := ⟨b.toNat, by omega⟩
        obtain ⟨c, rfl⟩ : ∃ k : Nat, c = k := ⟨c.toNat, by omega⟩
        have hN : 0 < (parts p).length := List.length_pos_iff.2 (parts_ne p)
        have hk := Nat.mod_lt a hN
        have hx := List.getElem?_eq_getElem hk
        cases hxs : ((parts p)[a % (parts p).length].toList == [42, 42]) with
        | true => exact stars_two p s o a b c w hm ht hz hs ho hpm _ _ rfl hk (tmod_nat _ _) (by omega) _ hx hxs
        | false =>
          have hi : b % ((parts p)[a % (parts p).length].size + 1) < (parts p)[a % (parts p).length].size + 1 := Nat.mod_lt _ (by omega)
          have hj : c % ((parts p)[a % (parts p).length].size + 1) < (parts p)[a % (parts p).length].size + 1 := Nat.mod_lt _ (by omega)
          refine stars_main p s o a b c w hm ht hz hs ho hpm _ _ rfl hk (tmod_nat _ _) (by omega) _ (by omega) (by omega) (b % ((parts p)[a % (parts p).length].size + 1)) (c % ((parts p)[a % (parts p).length].size + 1))
            (min (b % ((parts p)[a % (parts p).length].size + 1)) (c % ((parts p)[a % (parts p).length].size + 1))) (max (b % ((parts p)[a % (parts p).length].size + 1)) (c % ((parts p)[a % (parts p).length].size + 1))) (tmod_nat _ _) (tmod_nat _ _) (by omega) (by omega) (by omega) (by omega) hx hxs
end Go.Proofs.YtkoaeldlflncpaaDoor
