/-
  The contracts of the reference's key and Order.
-/
import Derived.Test.YtkoaeldlflncpaaDoorRefValid
import Derived.Test.YtkoaeldlflncpaaDoorGens
namespace Go.Proofs.YtkoaeldlflncpaaDoor
open Go.RowKit Go.PlainAid

/-! A list whose first texts are turned. -/
def um (f : ByteArray → ByteArray) (xs : List ByteArray) (j : Nat) : List ByteArray := (xs.take j).map f ++ xs.drop j
theorem um_zero (f : ByteArray → ByteArray) (xs : List ByteArray) : um f xs 0 = xs := by simp [um]
theorem um_all (f : ByteArray → ByteArray) (xs : List ByteArray) : um f xs xs.length = xs.map f := by simp [um]
theorem um_length (f : ByteArray → ByteArray) (xs : List ByteArray) (j : Nat) : (um f xs j).length = xs.length := by
  unfold um; rw [List.length_append, List.length_map, List.length_take, List.length_drop]; omega
theorem um_get (f : ByteArray → ByteArray) (xs : List ByteArray) (j n : Nat) : (um f xs j)[n]? = if n < j then xs[n]?.map f else xs[n]? := by
  unfold um
  by_cases hn : n < xs.length
  · by_cases h : n < j
    · rw [if_pos h, List.getElem?_append_left (by rw [List.length_map, List.length_take]; omega), List.getElem?_map, List.getElem?_take, if_pos h]
    · rw [if_neg h, List.getElem?_append_right (by rw [List.length_map, List.length_take]; omega), List.length_map, List.length_take, List.getElem?_drop]
      congr 1; omega
  · have hl : ((xs.take j).map f ++ xs.drop j).length = xs.length := um_length f xs j
    rw [List.getElem?_eq_none (by omega), List.getElem?_eq_none (by omega)]
    split <;> rfl
/-- A part of the reference's key. -/
def kpB (x : ByteArray) : ByteArray := ofL (kpL (bs x))
theorem kp_bs (p : ByteArray) : ((parts p).map kpB).map bs = (partsL (bs p)).map kpL := by
  rw [← parts_bs, List.map_map, List.map_map]
  apply List.map_congr_left
  intro x _
  exact bs_ofL _
theorem kp_join (p : ByteArray) : joinB ((parts p).map kpB) = keyB p := by
  apply bs_inj
  rw [joinB, bs_ofL, kp_bs, ← key_is, key_bs]
theorem kp_len (p : ByteArray) : (joinL (((parts p).map kpB).map bs)).length ≤ p.size := by
  have h := key_len p
  rw [kp_bs, ← key_is, keyL, replace_is, List.length_map]
  have e : ((parts p).map kq).map bs = (partsL (bs p)).map kqL := by
    rw [← parts_bs, List.map_map, List.map_map]
    apply List.map_congr_left
    intro x _
    show bs (kq x) = kqL (bs x)
    unfold kq kqL isSS isSSL
    rw [toList_bs]
    split <;> rfl
  rw [e] at h
  exact h
/-- The first k bytes of a part of the key. -/
def sk (x : ByteArray) (k : Nat) : ByteArray := ofL (((bs x).take k).map sub)
theorem sk_zero (x : ByteArray) : sk x 0 = ⟨#[]⟩ := by simp [sk]
theorem sk_size (x : ByteArray) (k : Nat) : (sk x k).size ≤ x.size := by
  rw [sk, ofL_size, List.length_map, ← bs_length x]; exact List.length_take_le' k (bs x)
theorem sk_star {x : ByteArray} {k : Nat} (h : (bs x)[k]? = some 42) : sk x (k + 1) = sk x k ++ ⟨#[254]⟩ := by
  apply bs_inj
  rw [bs_app, sk, sk, bs_ofL, bs_ofL, List.take_add_one, h, List.map_append]; rfl
theorem sk_other {x : ByteArray} {k : Nat} {c : UInt8} (h : (bs x)[k]? = some c) (hc : c ≠ 42) : sk x (k + 1) = sk x k ++ x.extract k (k + 1) := by
  apply bs_inj
  rw [bs_app, extract_one h, sk, sk, bs_ofL, bs_ofL, List.take_add_one, h, List.map_append]
  simp [sub, hc]
theorem sk_all {x : ByteArray} (h : (x.toList == [42, 42]) = false) : sk x x.size = kpB x := by
  rw [sk, ← bs_length, List.take_length, kpB, kpL_other]
  unfold isSSL; rw [← toList_bs]; exact h
theorem kpB_ss {x : ByteArray} (h : (x.toList == [42, 42]) = true) : kpB x = ⟨#[255]⟩ := by
  rw [toList_bs, beq_iff_eq] at h
  rw [kpB, h, kpL_ss]
theorem um_put {w : World} {B j : Nat} {xs : List ByteArray} {x : ByteArray} (h : OwnTexts w B (um kpB xs j)) (hx : xs[j]? = some x) : OwnTexts (w.setCell ⟨B, j, none⟩ (.string (kpB x))) B (um kpB xs (j + 1)) := by
  have hj : j < xs.length := (List.getElem?_eq_some_iff.1 hx).1
  refine h.put (by rw [um_length]; exact hj) fun n => ?_
  rw [um_get, um_get]
  by_cases e : n = j
  · subst e; rw [if_pos (by omega), if_pos rfl, hx]; rfl
  · rw [if_neg e]
    by_cases e2 : n < j
    · rw [if_pos (by omega), if_pos e2]
    · rw [if_neg (by omega), if_neg e2]
set_option maxRecDepth 100000 in
set_option maxHeartbeats 8000000 in
theorem refKey_any (p : ByteArray) (w : World) (hp : p.size ≤ 100) : Calls Tryd.prog 58 #[.string p] w fun e w' => e = .returned (.string (keyB p)) ∧ Below w.heap.size w w' := by
  obtain ⟨N, hN⟩ : ∃ N, (parts p).length = N := ⟨_, rfl⟩
  have hN40 : N ≤ 101 := by have := parts_few p; omega
  have SP := Lib.hid (refParts_form p w (by omega))
  rw [hN] at SP
  have HN := Lib.hid hN
  have HZ := Lib.hid hp
  have KL := Lib.hid (kp_len p)
  have KJ := Lib.hid (kp_join p)
  clear hN
  go_enter Tryd.func58, Tryd.ntmps58
  go_wp2_with fail
  refine SP.out.mono ?_
  rintro e w1 ⟨g, c, rfl, hg, hgl, hc, ho, hb⟩
  have B1 := Lib.hid hb
  have O1 := Lib.hid ho
  clear hb ho SP
  go_wp2_with fail
  go_loopw [4] (fun v wr => ∃ i : Nat, i ≤ N ∧ v = .int .i64 i ∧ Hid (OwnTexts wr g (um kpB (parts p) i)) ∧ Hid (Below w.heap.size w wr)) (fun v _ => N - (intOf v).toNat)
  case atStart => exact ⟨0, by omega, rfl, Lib.hid (by rw [um_zero]; exact O1.out), B1⟩
  case round =>
    obtain ⟨i, hi, rfl, OW, BW⟩ := hrel
    by_cases hlt : i < N
    · obtain ⟨x, hx⟩ : ∃ x, (parts p)[i]? = some x := ⟨_, List.getElem?_eq_getElem (by rw [HN.out]; exact hlt)⟩
      have hcell := OW.out.c i x (by rw [um_get, if_neg (by omega)]; exact hx)
      rw [Nat.zero_add] at hcell
      have hfr := OW.out.f i
      have hltI : (i : Int) < (N : Int) := by omega
      have hxz : x.size ≤ 100 := by have := parts_le (List.mem_of_getElem? hx); have := HZ.out; omega
      have OP := Lib.hid (um_put OW.out hx)
      have BP := Lib.hid (BW.out.setCell (p := ⟨g, i, none⟩) hg (.string (kpB x)))
      have HX := Lib.hid hx
      clear hx
      cases hss : (x.toList == [42, 42]) with
      | true =>
        have hk := kpB_ss hss
        rw [hk] at OP BP
        have hne : (x.toList != [42, 42]) = false := by rw [bne, hss]; rfl
        clear hk
        go_wp2_with fail
        go_loopw [5, 6] (fun v k wk => v = .string ⟨#[]⟩ ∧ k = .int .i64 0 ∧ wk = wr) (fun _ _ _ => 0)
        case atStart => exact ⟨rfl, rfl, rfl⟩
        case round =>
          obtain ⟨rfl, rfl, rfl⟩ := hrel
          by_cases hx0 : (0 : Int) < (x.size : Int)
          all_goals
            go_wp2_with fail
            go_roundw
            case rel => exact ⟨i + 1, by omega, by go_num, OP, BP⟩
            case measure => simp [intOf]; omega
      | false =>
        have hne : (x.toList != [42, 42]) = true := by rw [bne, hss]; rfl
        have hget := get_bt x
        have HS := Lib.hid hss
        go_wp2_with fail
        go_loopw [5, 6] (fun v k wk => ∃ j : Nat, j ≤ x.size ∧ v = .string (sk x j) ∧ k = .int .i64 j ∧ wk = wr) (fun _ k _ => x.size - (intOf k).toNat)
        case atStart => exact ⟨0, by omega, by rw [sk_zero], rfl, rfl⟩
        case round =>
          obtain ⟨j, hj, rfl, rfl, rfl⟩ := hrel
          by_cases hjx : j < x.size
          · obtain ⟨b, hb, hbt⟩ := byte_at hjx
            have hsz := sk_size x j
            have hjI : decide ((j : Int) < (x.size : Int)) = true := decide_eq_true (by omega)
            by_cases h42 : b = 42
            · subst h42
              have hbt' : (bt x j == 42) = true := by rw [hbt]; rfl
              have R := sk_star hb
              obtain ⟨t, ht⟩ : ∃ t, sk x j = t := ⟨_, rfl⟩
              rw [ht] at R hsz ⊢
              have HR := Lib.hid R
              clear R ht hb hbt
              go_wp2_with fail
              go_roundw
              case rel => exact ⟨j + 1, by omega, by rw [HR.out], by go_num, trivial⟩
              case measure => simp [intOf]; omega
            · have hbt' : (bt x j == 42) = false := by
                rw [hbt]
                have : b.toNat ≠ 42 := fun e => h42 (UInt8.toNat_inj.1 e)
                simp; omega
              have R := sk_other hb h42
              have hjx1 : (j : Int) + 1 ≤ x.size := by omega
              have hjj : (j : Int) ≤ (j : Int) + 1 := by omega
              have hwj : IntKind.i64.wrap ((j : Int) + 1) = (j : Int) + 1 := by have := i64_lin 0 (j + 1) 0 (by omega); simpa using this
              obtain ⟨t, ht⟩ : ∃ t, sk x j = t := ⟨_, rfl⟩
              obtain ⟨y, hy⟩ : ∃ y, x.extract j (j + 1) = y := ⟨_, rfl⟩
              have hyz : y.size ≤ 1 := by rw [← hy]; simp; omega
              rw [ht] at R hsz ⊢
              rw [hy] at R
              have HR := Lib.hid R
              clear R ht hb hbt
              go_wp2_with fail
              go_roundw
              case rel => exact ⟨j + 1, by omega, by rw [HR.out], by go_num, trivial⟩
              case measure => simp [intOf]; omega
          · obtain rfl : j = x.size := by omega
            rw [sk_all HS.out]
            have hjI : decide ((x.size : Int) < (x.size : Int)) = false := decide_eq_false (by omega)
            go_wp2_with fail
            go_roundw
            case rel => exact ⟨i + 1, by omega, by go_num, OP, BP⟩
            case measure => simp [intOf]; omega
    · obtain rfl : i = N := by omega
      have hA := OW.out
      rw [show um kpB (parts p) i = (parts p).map kpB by rw [← HN.out]; exact um_all _ _] at hA
      have TA := Lib.hid hA
      clear hA
      go_wp2_with fail
      refine (refJoin_any g i c ((parts p).map kpB) _ TA.out.c (by rw [List.length_map]; exact HN.out) (by have := KL.out; have := HZ.out; omega) (by omega)).mono ?_
      rw [KJ.out]
      rintro e w' ⟨rfl, rfl⟩
      go_wp2_with fail
      go_ret
      exact ⟨rfl, BW.out⟩
theorem refOrder_no1 (a b : ByteArray) (w : World) (h1 : patB a = false) : Calls Tryd.prog 20 #[.string a, .string b] w fun e w' => e = .returned (.int .i64 (orderV a b)) ∧ Below w.heap.size w w' := by
  have R : orderV a b = 0 := order_nopat fun h => by rw [h1] at h; exact absurd h.1 (by decide)
  go_enter Tryd.func20, Tryd.ntmps20
  go_wp2_with (go_at_call 29; refine (refPattern_any a _).mono ?_; rw [h1]; rintro e w' ⟨rfl, hb⟩)
  go_ret
  exact ⟨by rw [R]; rfl, hb⟩
theorem refOrder_no2 (a b : ByteArray) (w : World) (h1 : patB a = true) (h2 : patB b = false) : Calls Tryd.prog 20 #[.string a, .string b] w fun e w' => e = .returned (.int .i64 (orderV a b)) ∧ Below w.heap.size w w' := by
  have R : orderV a b = 0 := order_nopat fun h => by rw [h2] at h; exact absurd h.2 (by decide)
  go_enter Tryd.func20, Tryd.ntmps20
  go_wp2_with fail
  refine (refPattern_any a _).mono ?_
  rw [h1]
  rintro e w1 ⟨rfl, hb⟩
  have B1 := Lib.hid hb
  clear hb
  go_wp2_with (go_at_call 29; refine (refPattern_any b _).mono ?_; rw [h2]; rintro e w' ⟨rfl, hb⟩)
  go_ret
  exact ⟨by rw [R]; rfl, B1.out.trans (hb.mono B1.out.size)⟩
theorem refOrder_same (a : ByteArray) (w : World) (h1 : patB a = true) : Calls Tryd.prog 20 #[.string a, .string a] w fun e w' => e = .returned (.int .i64 (orderV a a)) ∧ Below w.heap.size w w' := by
  have R : orderV a a = 0 := order_self h1
  go_enter Tryd.func20, Tryd.ntmps20
  go_wp2_with fail
  refine (refPattern_any a _).mono ?_
  rw [h1]
  rintro e w1 ⟨rfl, hb⟩
  have B1 := Lib.hid hb
  clear hb
  go_wp2_with fail
  refine (refPattern_any a _).mono ?_
  rw [h1]
  rintro e w2 ⟨rfl, hb⟩
  have B2 := Lib.hid (B1.out.trans (hb.mono B1.out.size))
  clear hb
  go_wp2_with fail
  go_ret
  exact ⟨by rw [R]; rfl, B2.out⟩
theorem refOrder_diff (a b : ByteArray) (w : World) (h1 : patB a = true) (h2 : patB b = true) (hne : a ≠ b) (v : Bool) (hv : Op.bytesLess (keyB a).toList (keyB b).toList = v) (r : Int) (hvr : r = if v then -1 else 1) : Calls Tryd.prog 20 #[.string a, .string b] w fun e w' => e = .returned (.int .i64 r) ∧ Below w.heap.size w w' := by
  have hne' : (a.toList == b.toList) = false := by simpa [ByteArray.toList_eq] using fun e : bs a = bs b => hne (bs_inj e)
  have ha := patB_size h1
  have hb' := patB_size h2
  have HA := Lib.hid ha
  have HB := Lib.hid hb'
  clear ha hb'
  obtain ⟨ka, hka⟩ : ∃ k, keyB a = k := ⟨_, rfl⟩
  obtain ⟨kb, hkb⟩ : ∃ k, keyB b = k := ⟨_, rfl⟩
  rw [hka, hkb] at hv
  cases v
  all_goals
    simp only [if_true, if_false, Bool.false_eq_true] at hvr
    subst hvr
    go_enter Tryd.func20, Tryd.ntmps20
    go_wp2_with fail
    refine (refPattern_any a _).mono ?_
    rw [h1]
    rintro e w1 ⟨rfl, hb⟩
    have B1 := Lib.hid hb
    clear hb
    go_wp2_with fail
    refine (refPattern_any b _).mono ?_
    rw [h2]
    rintro e w2 ⟨rfl, hb⟩
    have B2 := Lib.hid (B1.out.trans (hb.mono B1.out.size))
    clear hb
    go_wp2_with fail
    refine (refKey_any a _ (by have := HA.out; omega)).mono ?_
    rw [hka]
    rintro e w3 ⟨rfl, hb⟩
    have B3 := Lib.hid (B2.out.trans (hb.mono B2.out.size))
    clear hb
    go_wp2_with fail
    refine (refKey_any b _ (by have := HB.out; omega)).mono ?_
    rw [hkb]
    rintro e w4 ⟨rfl, hb⟩
    have B4 := Lib.hid (B3.out.trans (hb.mono B3.out.size))
    clear hb
    go_wp2_with fail
    go_ret
    exact ⟨rfl, B4.out⟩
theorem refOrder_any (a b : ByteArray) (w : World) : Calls Tryd.prog 20 #[.string a, .string b] w fun e w' => e = .returned (.int .i64 (orderV a b)) ∧ Below w.heap.size w w' := by
  cases h1 : patB a with
  | false => exact refOrder_no1 a b w h1
  | true =>
    cases h2 : patB b with
    | false => exact refOrder_no2 a b w h1 h2
    | true =>
      by_cases hne : a = b
      · subst hne; exact refOrder_same a w h1
      · have e : orderV a b = Lib.compareBytes (bs (keyB a)) (bs (keyB b)) := by unfold orderV; rw [h1, h2]; rfl
        have hr := order_range h1 h2
        have h0 : orderV a b ≠ 0 := fun h => hne (order_same h1 h2 h)
        refine refOrder_diff a b w h1 h2 hne _ rfl _ ?_
        rw [toList_bs, toList_bs, less_cmp, ← e]
        by_cases hx : orderV a b = -1
        · rw [decide_eq_true hx, if_pos rfl]; exact hx
        · rw [decide_eq_false hx, if_neg (by decide)]; omega
end Go.Proofs.YtkoaeldlflncpaaDoor
