/-
  The contract of Order.
-/
import Derived.Test.YtkoaeldlflncpaaDoorMatch
namespace Go.Proofs.YtkoaeldlflncpaaDoor
open Go.RowKit Go.PlainAid

/-- A part of a pattern's key. -/
def kq (x : ByteArray) : ByteArray := if isSS x then ⟨#[255]⟩ else x
/-- The text by which a pattern is ordered. -/
def keyB (p : ByteArray) : ByteArray := ofL (Lib.replaceAll (joinL (((parts p).map kq).map bs)) [42] [254])
theorem kq_size (x : ByteArray) : (kq x).size ≤ x.size := by
  unfold kq isSS
  split
  · rename_i h
    have h2 := beq_iff_eq.1 h
    rw [ByteArray.toList_eq] at h2
    have : x.size = 2 := by
      have h3 : (bs x).length = 2 := by rw [show bs x = [42, 42] from h2]; rfl
      exact h3
    rw [this]; decide
  · exact Nat.le_refl _
/-- The parts, the first j of them turned. -/
def upd (xs : List ByteArray) (j : Nat) : List ByteArray := (xs.take j).map kq ++ xs.drop j
theorem upd_length (xs : List ByteArray) (j : Nat) : (upd xs j).length = xs.length := by
  unfold upd; simp; omega
theorem upd_all (xs : List ByteArray) {j : Nat} (h : xs.length ≤ j) : upd xs j = xs.map kq := by
  unfold upd; rw [List.take_of_length_le h, List.drop_of_length_le h, List.append_nil]
theorem upd_get (xs : List ByteArray) (j n : Nat) : (upd xs j)[n]? = if n < j then xs[n]?.map kq else xs[n]? := by
  unfold upd
  by_cases h : n < j
  · rw [if_pos h]
    by_cases hl : n < xs.length
    · rw [List.getElem?_append_left (by simp; omega), List.getElem?_map, List.getElem?_take, if_pos h]
    · rw [List.getElem?_eq_none (by simp; omega), List.getElem?_eq_none (by omega)]; rfl
  · rw [if_neg h]
    by_cases hl : j ≤ xs.length
    · rw [List.getElem?_append_right (by simp; omega), List.getElem?_drop]
      congr 1; simp; omega
    · rw [List.getElem?_eq_none (by simp; omega), List.getElem?_eq_none (by omega)]
/-- A list of texts in memory of one's own. -/
structure OwnTexts (w : World) (B : Nat) (xs : List ByteArray) : Prop where
  c : TextsAt w B 0 xs
  f : ∀ j, w.frozen? ⟨B, j, none⟩ = false
theorem OwnTexts.put {w : World} {B : Nat} {xs ys : List ByteArray} (h : OwnTexts w B xs) {j : Nat} {y : ByteArray} (hj : j < xs.length) (hy : ∀ n, ys[n]? = if n = j then some y else xs[n]?) : OwnTexts (w.setCell ⟨B, j, none⟩ (.string y)) B ys := by
  refine ⟨fun n x hx => ?_, fun n => ?_⟩
  · rw [hy n] at hx
    by_cases e : n = j
    · subst e
      rw [if_pos rfl] at hx
      cases hx
      have := h.c n _ (List.getElem?_eq_getElem hj)
      rw [Nat.zero_add] at this ⊢
      exact World.cell?_setCell_same _ _ _ this
    · rw [if_neg e] at hx
      rw [World.cell?_setCell_other _ _ _ _ (by intro q; have := congrArg Addr.off q; simp only at this; omega)]
      exact h.c n x hx
  · rw [World.frozen?_setCell]; exact h.f n
theorem split_own (s : ByteArray) (w : World) (hm : MaxLen w) (hs : s.size < 4294967281) :
    Calls Tryd.prog 21 #[.string s, .string dot] w fun e w' => e = .returned (.slice (some ⟨w.heap.size, 0, none⟩) (parts s).length (parts s).length) ∧ Below w.heap.size w w' ∧ OwnTexts w' w.heap.size (parts s) := by
  obtain ⟨m, hm⟩ := hm
  refine (Tryd.strings_Split s dot m w hs hm (by decide)).mono ?_
  rintro e w' ⟨rfl, rfl⟩
  refine ⟨by rw [parts_length], (Below.refl _ _).alloc (Nat.le_refl _) _, texts_new _ _ _, fun j => ?_⟩
  have : (w.alloc (.cells ((Lib.splitB dot 0 (Lib.countB s dot) s).map Value.string).toArray 9)).heap[w.heap.size]? = some (.cells ((Lib.splitB dot 0 (Lib.countB s dot) s).map Value.string).toArray 9 (0, 0)) := heap_alloc_new w _
  simp only [World.frozen?, this]
  simp
/-- strings.ReplaceAll of a star. -/
theorem replace_any (s : ByteArray) (hs : s.size ≤ 1000) (w : World) (hm : MaxLen w) : Calls Tryd.prog 56 #[.string s, .string ⟨#[42]⟩, .string ⟨#[254]⟩] w fun e w' => e = .returned (.string (ofL (Lib.replaceAll (bs s) [42] [254]))) ∧ Below w.heap.size w w' := by
  obtain ⟨m, hm⟩ := hm
  have := Lib.countB_le ⟨#[42]⟩ (by decide) s.size s (Nat.le_refl _)
  exact Tryd.strings_ReplaceAll s ⟨#[42]⟩ ⟨#[254]⟩ m w (by omega) hm (by decide) (by show s.size + Lib.countB s ⟨#[42]⟩ * 1 ≤ _; omega)
theorem joinL_mono (xs : List ByteArray) : (joinL ((xs.map kq).map bs)).length ≤ (joinL (xs.map bs)).length := by
  induction xs with
  | nil => exact Nat.le_refl _
  | cons x r ih =>
    have hx : (bs (kq x)).length ≤ (bs x).length := kq_size x
    cases r with
    | nil => exact hx
    | cons y r =>
      change (bs (kq x) ++ 46 :: joinL (((y :: r).map kq).map bs)).length ≤ (bs x ++ 46 :: joinL ((y :: r).map bs)).length
      rw [List.length_append, List.length_append, List.length_cons, List.length_cons]
      omega
theorem key_len (p : ByteArray) : (joinL (((parts p).map kq).map bs)).length ≤ p.size := by
  have := joinL_mono (parts p)
  rw [parts_bs, join_parts] at this
  exact this
set_option maxHeartbeats 1000000 in
theorem key_any (p : ByteArray) (w : World) (hm : MaxLen w) (hp : p.size ≤ 31) : Calls Tryd.prog 55 #[.string p] w fun e w' => e = .returned (.string (keyB p)) ∧ Below w.heap.size w w' := by
  have HM := Lib.hid hm
  clear hm
  have hf := parts_few p
  obtain ⟨xs, hxs⟩ : ∃ xs, parts p = xs := ⟨_, rfl⟩
  obtain ⟨N, hN⟩ : ∃ N, xs.length = N := ⟨_, rfl⟩
  have SP := split_own p w HM.out (by omega)
  rw [hxs, hN] at SP
  rw [hxs, hN] at hf
  have HX := Lib.hid hxs
  have HN := Lib.hid hN
  have SP := Lib.hid SP
  clear hxs hN
  go_enter Tryd.func55, Tryd.ntmps55
  go_wp2_with (go_at_call 21; refine SP.out.mono ?_; rintro e w1 ⟨rfl, hb, ht⟩)
  have HB := Lib.hid hb
  have HT := Lib.hid ht
  clear hb ht SP
  go_loopw [10] (fun i wr => ∃ j : Nat, j ≤ N ∧ i = .int .i64 j ∧ OwnTexts wr w.heap.size (upd xs j) ∧ Below w.heap.size w wr) (fun i _ => N - (intOf i).toNat)
  case atStart => exact ⟨0, by omega, rfl, HT.out, HB.out⟩
  case round =>
    obtain ⟨j, hj, rfl, ho, hb⟩ := hrel
    have HO := Lib.hid ho
    have HB := Lib.hid hb
    clear ho hb
    by_cases hlt : j < N
    · obtain ⟨x, hx⟩ : ∃ x, xs[j]? = some x := ⟨_, List.getElem?_eq_getElem (by rw [HN.out]; exact hlt)⟩
      have hcell := HO.out.c j x (by rw [upd_get, if_neg (by omega)]; exact hx)
      have hfr := HO.out.f j
      rw [Nat.zero_add] at hcell
      have HJ := Lib.hid hx
      clear hx
      cases hd : (x.toList == [42, 42]) with
      | true =>
        have HE := Lib.hid (HO.out.put (j := j) (y := ⟨#[255]⟩) (ys := upd xs (j + 1)) (by rw [upd_length, HN.out]; exact hlt) (fun n => by
          rw [upd_get, upd_get]
          by_cases e : n = j
          · subst e; rw [if_pos (by omega), if_pos rfl, HJ.out]; simp [kq, isSS, hd]
          · rw [if_neg e]
            by_cases e2 : n < j
            · rw [if_pos (by omega), if_pos e2]
            · rw [if_neg (by omega), if_neg e2]))
        go_wp2_with fail
        go_roundw
        case rel => exact ⟨j + 1, by omega, by go_num, HE.out, HB.out.setCell (Nat.le_refl _) _⟩
        case measure => simp [intOf]; omega
      | false =>
        have HE := Lib.hid (show OwnTexts wr w.heap.size (upd xs (j + 1)) from ⟨fun n y hy => HO.out.c n y (by
          rw [upd_get] at hy ⊢
          by_cases e : n = j
          · subst e; rw [if_neg (by omega)]; rw [if_pos (by omega), HJ.out] at hy; rw [HJ.out]; simpa [kq, isSS, hd] using hy
          · by_cases e2 : n < j
            · rw [if_pos e2]; rwa [if_pos (by omega)] at hy
            · rw [if_neg e2]; rwa [if_neg (by omega)] at hy), HO.out.f⟩)
        go_wp2_with fail
        go_roundw
        case rel => exact ⟨j + 1, by omega, by go_num, HE.out, HB.out⟩
        case measure => simp [intOf]; omega
    · obtain rfl : j = N := by omega
      have ha : upd xs j = xs.map kq := upd_all xs (by rw [HN.out]; exact Nat.le_refl _)
      have HT := HO.out.c
      rw [ha] at HT
      have HT := Lib.hid HT
      have HJ := key_len p
      rw [HX.out] at HJ
      have HR := Lib.hid (replace_any (joinB (xs.map kq)) (by rw [joinB, ofL_size]; omega))
      have hk : keyB p = ofL (Lib.replaceAll (bs (joinB (xs.map kq))) [42] [254]) := by rw [keyB, HX.out, joinB, bs_ofL]
      have HK := Lib.hid hk
      have HL := Lib.hid HJ
      clear hk HJ
      clear ha
      go_wp2_with fail
      refine (join_any w.heap.size 0 j j (xs.map kq) _ HT.out (by have := HB.out.size; have := texts_lt HT.out (by intro e; have := congrArg List.length e; simp [HN.out] at this; subst this; exact parts_ne p (by rw [HX.out]; exact List.eq_nil_of_length_eq_zero HN.out)); omega) (by rw [List.length_map]; exact HN.out) (Nat.le_refl _) (by have := HL.out; omega) (by omega)).mono ?_
      rintro e w2 ⟨rfl, hb2⟩
      have B2 := Lib.hid (HB.out.trans (hb2.mono HB.out.size))
      clear hb2
      go_wp2_with fail
      refine (HR.out _ (HM.out.below B2.out)).mono ?_
      rintro e w3 ⟨rfl, hb3⟩
      go_wp2_with fail
      go_ret
      exact ⟨by rw [HK.out]; rfl, B2.out.trans (hb3.mono B2.out.size)⟩
/-- What Order answers. -/
def orderV (a b : ByteArray) : Int := if patB a && patB b then Lib.compareBytes (bs (keyB a)) (bs (keyB b)) else 0
theorem order_any (a b : ByteArray) (w : World) (hm : MaxLen w) : Calls Tryd.prog 19 #[.string a, .string b] w fun e w' => e = .returned (.int .i64 (orderV a b)) ∧ Below w.heap.size w w' := by
  have HM := Lib.hid hm
  clear hm
  cases ha : patB a with
  | false =>
    have R : orderV a b = 0 := by simp [orderV, ha]
    go_enter Tryd.func19, Tryd.ntmps19
    go_wp2_with (go_at_call 11; refine (pattern_any a _ HM.out).mono ?_; rw [ha]; rintro e w1 ⟨rfl, hb1⟩)
    go_ret
    exact ⟨by rw [R]; rfl, hb1⟩
  | true =>
    cases hb : patB b with
    | false =>
      have R : orderV a b = 0 := by simp [orderV, ha, hb]
      go_enter Tryd.func19, Tryd.ntmps19
      go_wp2_with fail
      refine (pattern_any a _ HM.out).mono ?_
      rw [ha]
      rintro e w1 ⟨rfl, hb1⟩
      go_wp2_with fail
      refine (pattern_any b _ (HM.out.below hb1)).mono ?_
      rw [hb]
      rintro e w2 ⟨rfl, hb2⟩
      go_wp2_with fail
      go_ret
      exact ⟨by rw [R]; rfl, hb1.trans (hb2.mono hb1.size)⟩
    | true =>
      have R : orderV a b = Lib.compareBytes (bs (keyB a)) (bs (keyB b)) := by simp [orderV, ha, hb]
      have za := patB_size ha
      have zb := patB_size hb
      go_enter Tryd.func19, Tryd.ntmps19
      go_wp2_with fail
      refine (pattern_any a _ HM.out).mono ?_
      rw [ha]
      rintro e w1 ⟨rfl, hb1⟩
      have B1 := Lib.hid hb1
      clear hb1
      go_wp2_with fail
      refine (pattern_any b _ (HM.out.below B1.out)).mono ?_
      rw [hb]
      rintro e w2 ⟨rfl, hb2⟩
      have B2 := Lib.hid (B1.out.trans (hb2.mono B1.out.size))
      clear hb2
      go_wp2_with fail
      refine (key_any a _ (HM.out.below B2.out) za.2).mono ?_
      rintro e w3 ⟨rfl, hb3⟩
      have B3 := Lib.hid (B2.out.trans (hb3.mono B2.out.size))
      clear hb3
      go_wp2_with fail
      refine (key_any b _ (HM.out.below B3.out) zb.2).mono ?_
      rintro e w4 ⟨rfl, hb4⟩
      have B4 := Lib.hid (B3.out.trans (hb4.mono B3.out.size))
      clear hb4
      go_wp2_with (go_at_call 57; refine (Tryd.strings_Compare (keyB a) (keyB b) _).mono ?_; rintro e w' ⟨rfl, rfl⟩)
      go_ret
      exact ⟨by rw [R]; rfl, B4.out⟩
end Go.Proofs.YtkoaeldlflncpaaDoor
