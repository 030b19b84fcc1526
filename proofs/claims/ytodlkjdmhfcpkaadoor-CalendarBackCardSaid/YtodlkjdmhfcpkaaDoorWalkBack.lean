/-
  The walk of the law CalendarBack: it returns true for every two numbers.
-/
import Derived.Test.YtodlkjdmhfcpkaaDoorAny
namespace Go.Proofs.YtodlkjdmhfcpkaaDoor
open Go.RowKit

/-- The law's second half, with all its numbers named. -/
theorem back_rest (n k y m d N Y M D P : Int) (w : World) (ht : Tab w) (k0 : -3000 ≤ k) (k1 : k ≤ 3000) (yb : 2000 ≤ y ∧ y ≤ 2179) (mb : 1 ≤ m ∧ m ≤ 12) (Yb : 2000 ≤ Y ∧ Y ≤ 2179) (Mb : 1 ≤ M ∧ M ≤ 12)
    (hk : 12 * Y + M - 12 * y - m = k) (hD : D ≤ d) (hDd : D = d ∨ 28 ≤ D)
    (ha : addV n k = (N, 0)) (hb : addV N (-k) = (P, 0)) (d1 : dateV n = (y, m, d)) (d2 : dateV N = (Y, M, D)) (d3 : dateV P = (y, m, D)) :
    Calls Tryd.prog 6 #[.int .i64 n, .int .i16 k] w fun e w' => e = .returned (.bool true) ∧ Below w.heap.size w w' := by
  have HT := Lib.hid ht
  have HA := Lib.hid ha
  have HB := Lib.hid hb
  have D1 := Lib.hid d1
  have D2 := Lib.hid d2
  have D3 := Lib.hid d3
  clear ht ha hb d1 d2 d3
  have q1 : (12 * Y + M - 12 * y - m == k) = true := by simp; omega
  clear hk
  have hq : ((D == d) = true) ∨ ((D == d) = false ∧ 28 ≤ D) := by
    rcases hDd with h | h
    · exact Or.inl (by simp [h])
    · cases hx : (D == d) with
      | true => exact Or.inl rfl
      | false => exact Or.inr ⟨rfl, h⟩
  clear hDd
  rcases hq with hq | ⟨hq, h28⟩
  all_goals
    go_enter Tryd.func6, Tryd.ntmps6
    go_wp2_with fail
    refine (awake_true _ HT.out).mono ?_
    rintro e w1 ⟨rfl, hb1⟩
    have N1 := Lib.hid hb1
    clear hb1
    go_wp2_with fail
    refine (addMonths_any _ _ _).mono ?_
    rw [HA.out]
    rintro e w2 ⟨rfl, hb2⟩
    have N2 := Lib.hid (N1.out.trans (hb2.mono N1.out.size))
    clear hb2
    go_wp2_with fail
    refine (date_any _ _).mono ?_
    rw [D1.out]
    rintro e w3 ⟨rfl, hb3⟩
    have N3 := Lib.hid (N2.out.trans (hb3.mono N2.out.size))
    clear hb3
    go_wp2_with fail
    refine (date_any _ _).mono ?_
    rw [D2.out]
    rintro e w4 ⟨rfl, hb4⟩
    have N4 := Lib.hid (N3.out.trans (hb4.mono N3.out.size))
    clear hb4
    go_wp2_with fail
    refine (addMonths_any _ _ _).mono ?_
    rw [HB.out]
    rintro e w5 ⟨rfl, hb5⟩
    have N5 := Lib.hid (N4.out.trans (hb5.mono N4.out.size))
    clear hb5
    go_wp2_with fail
    refine (date_any _ _).mono ?_
    rw [D3.out]
    rintro e w6 ⟨rfl, hb6⟩
    have N6 := Lib.hid (N5.out.trans (hb6.mono N5.out.size))
    clear hb6
    go_wp2_with fail
    go_ret
    exact ⟨rfl, N6.out⟩
theorem back_err (n k : Int) (w : World) (ht : Tab w) (k0 : -32768 ≤ k) (k1 : k ≤ 32767) (ha : addV n k = (0, 2)) :
    Calls Tryd.prog 6 #[.int .i64 n, .int .i16 k] w fun e w' => e = .returned (.bool true) ∧ Below w.heap.size w w' := by
  have HT := Lib.hid ht
  have HA := Lib.hid ha
  clear ht ha
  go_enter Tryd.func6, Tryd.ntmps6
  go_wp2_with fail
  refine (awake_true _ HT.out).mono ?_
  rintro e w1 ⟨rfl, hb1⟩
  have N1 := Lib.hid hb1
  clear hb1
  go_wp2_with fail
  refine (addMonths_any _ _ _).mono ?_
  rw [HA.out]
  rintro e w2 ⟨rfl, hb2⟩
  have N2 := Lib.hid (N1.out.trans (hb2.mono N1.out.size))
  clear hb2
  go_wp2_with fail
  go_ret
  exact ⟨rfl, N2.out⟩
theorem dateV_of (n y m d : Int) (h : IsDate y m d) (e : Cal.num y m d = n) : dateV n = (y, m, d) := by
  have v : Cal.Valid y m d := ⟨h.y1, h.m1, h.m2, h.d1, h.d2⟩
  have n0 : 0 ≤ n := by
    have a := v.year
    have b := Cal.fst_bd y h.y1 (by have := h.y2; omega)
    omega
  have n1 : n ≤ 65536 := by have := h.n; omega
  have c := Cal.c_of n y m d n0 v e
  unfold dateV
  rw [isD_true.2 ⟨n0, n1⟩, c.1, c.2.1, c.2.2]; rfl
theorem back_walk (n k : Int) (w : World) (ht : Tab w) (k0 : -32768 ≤ k) (k1 : k ≤ 32767) :
    Calls Tryd.prog 6 #[.int .i64 n, .int .i16 k] w fun e w' => e = .returned (.bool true) ∧ Below w.heap.size w w' := by
  by_cases ok : AmOk n k
  · have hv : addV n k = amV n k := by unfold addV; rw [if_pos ok]
    by_cases hd : IsDate (amN n k / 12) (amN n k % 12 + 1) (min (Cal.cd n) (Cal.dim (amN n k / 12) (amN n k % 12 + 1)))
    · have v := Cal.c_valid n
      have dim := Cal.dim_bd (amN n k / 12) (amN n k % 12 + 1)
      have e0 : amN n k = 12 * Cal.cy n + Cal.cm n - 1 + k := rfl
      generalize hN : amN n k = q at *
      have hy := cy_bd n ok.n0 ok.n1
      have hm := cm_bd n
      have hk0 := ok.k0
      have hk1 := ok.k1
      have y1 := hd.y1; have y2 := hd.y2
      have hmin1 : min (Cal.cd n) (Cal.dim (q / 12) (q % 12 + 1)) ≤ Cal.cd n := Int.min_le_left _ _
      have hmin2 : min (Cal.cd n) (Cal.dim (q / 12) (q % 12 + 1)) = Cal.cd n ∨ 28 ≤ min (Cal.cd n) (Cal.dim (q / 12) (q % 12 + 1)) := by omega
      have ha : addV n k = (Cal.num (q / 12) (q % 12 + 1) (min (Cal.cd n) (Cal.dim (q / 12) (q % 12 + 1))), 0) := by
        rw [hv]; unfold amV; rw [hN]; exact dayV_yes hd
      have d2 := dateV_of _ _ _ _ hd rfl
      generalize hD : min (Cal.cd n) (Cal.dim (q / 12) (q % 12 + 1)) = D at *
      have hd0 := hd.d1
      generalize hR : Cal.num (q / 12) (q % 12 + 1) D = R at *
      have d1 : dateV n = (Cal.cy n, Cal.cm n, Cal.cd n) := by
        unfold dateV; rw [isD_true.2 ⟨ok.n0, ok.n1⟩]; rfl
      have vD : IsDate (Cal.cy n) (Cal.cm n) D := by
        refine ⟨hy.1, hy.2, hm.1, hm.2, hd0, by have := v.dd; omega, ?_⟩
        have e := Cal.c_num n ok.n0
        have := ok.n1
        unfold Cal.num at e ⊢; omega
      have d3 := dateV_of _ _ _ _ vD rfl
      have hR' : isD R = true ∧ Cal.cy R = q / 12 ∧ Cal.cm R = q % 12 + 1 ∧ Cal.cd R = D := by
        unfold dateV at d2
        cases hi : isD R with
        | true => rw [hi] at d2; simp at d2; exact ⟨rfl, d2.1, d2.2.1, d2.2.2⟩
        | false => rw [hi] at d2; simp at d2; omega
      have okR : AmOk R (-k) := ⟨(isD_true.1 hR'.1).1, (isD_true.1 hR'.1).2, by omega, by omega⟩
      have hb : addV R (-k) = (Cal.num (Cal.cy n) (Cal.cm n) D, 0) := by
        unfold addV; rw [if_pos okR]
        unfold amV
        have e2 : amN R (-k) = 12 * Cal.cy n + (Cal.cm n - 1) := by unfold amN; rw [hR'.2.1, hR'.2.2.1]; omega
        have e3 : amN R (-k) / 12 = Cal.cy n := by omega
        have e4 : amN R (-k) % 12 + 1 = Cal.cm n := by omega
        rw [e3, e4, hR'.2.2.2]
        have e5 : min D (Cal.dim (Cal.cy n) (Cal.cm n)) = D := by have := vD.d2; omega
        rw [e5]; exact dayV_yes vD
      exact back_rest n k _ _ _ R _ _ D _ w ht ok.k0 ok.k1 hy hm ⟨y1, y2⟩ ⟨by omega, by omega⟩ (by omega) hmin1 hmin2 ha hb d1 d2 d3
    · exact back_err n k w ht k0 k1 (by rw [hv]; unfold amV; exact dayV_no hd)
  · exact back_err n k w ht k0 k1 (by unfold addV; rw [if_neg ok])
end Go.Proofs.YtodlkjdmhfcpkaaDoor
