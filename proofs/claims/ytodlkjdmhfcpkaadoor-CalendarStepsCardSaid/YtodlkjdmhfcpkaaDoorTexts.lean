/-
  Plain facts on the texts of days: they lead back to the day, and they are ordered as the days.
-/
import Derived.Test.YtodlkjdmhfcpkaaDoorAny
namespace Go.Proofs.YtodlkjdmhfcpkaaDoor
open Go.RowKit Go.PlainAid

theorem bt_list (l : List UInt8) (k : Nat) : bt ⟨l.toArray⟩ k = ((l.getD k 0).toNat : Int) := by
  unfold bt
  by_cases h : k < l.length
  · rw [dif_pos (show k < (⟨l.toArray⟩ : ByteArray).size from h)]
    simp [List.getD, h]
    rfl
  · rw [dif_neg (show ¬ k < (⟨l.toArray⟩ : ByteArray).size from h)]
    simp [List.getD, List.getElem?_eq_none (Nat.le_of_not_lt h)]
/-- A digit's byte. -/
def dg (n k : Nat) : UInt8 := UInt8.ofNat (48 + n / 10 ^ k % 10)
theorem dg_nat (n k : Nat) : (dg n k).toNat = 48 + n / 10 ^ k % 10 := by
  unfold dg
  rw [UInt8.toNat_ofNat']
  omega
theorem dg_bd (n k : Nat) : 48 ≤ (dg n k).toNat ∧ (dg n k).toNat ≤ 57 := by rw [dg_nat]; omega
def dayList (y m d : Nat) : List UInt8 := [dg y 3, dg y 2, dg y 1, dg y 0, 45, dg m 1, dg m 0, 45, dg d 1, dg d 0]
theorem dayText_list (n : Int) : dayText n = ⟨(dayList (Cal.cy n).toNat (Cal.cm n).toNat (Cal.cd n).toNat).toArray⟩ := by
  apply ByteArray.ext
  simp [dayText, d4, d2, digs, dayList, dg]
theorem day_isText (y m d : Nat) : isText ⟨(dayList y m d).toArray⟩ := by
  refine ⟨rfl, fun j hj => ?_⟩
  have h : j = 0 ∨ j = 1 ∨ j = 2 ∨ j = 3 ∨ j = 4 ∨ j = 5 ∨ j = 6 ∨ j = 7 ∨ j = 8 ∨ j = 9 := by omega
  have a := dg_bd y 3; have b := dg_bd y 2; have c := dg_bd y 1; have e := dg_bd y 0; have f := dg_bd m 1; have g := dg_bd m 0; have i := dg_bd d 1; have k := dg_bd d 0
  rcases h with rfl | rfl | rfl | rfl | rfl | rfl | rfl | rfl | rfl | rfl <;> simp [okAt, bt_list, dayList] <;> omega
theorem day_vals (y m d : Nat) (hy : y < 10000) (hm : m < 100) (hd : d < 100) : vals ⟨(dayList y m d).toArray⟩ 10 0 = y ∧ vals ⟨(dayList y m d).toArray⟩ 10 1 = m ∧ vals ⟨(dayList y m d).toArray⟩ 10 2 = d := by
  refine ⟨?_, ?_, ?_⟩ <;> simp [vals, pt, bt_list, dayList, dg_nat] <;> omega
theorem isDate_c (n : Int) (h0 : 0 ≤ n) (h1 : n ≤ 65536) : IsDate (Cal.cy n) (Cal.cm n) (Cal.cd n) :=
  ⟨(Cal.c_valid n).y2, Cal.c_year n h0 h1, (Cal.c_valid n).m1, (Cal.c_valid n).m12, (Cal.c_valid n).d1, (Cal.c_valid n).dd, by rw [Cal.c_num n h0]; exact h1⟩
theorem dayV_back (n : Int) (h0 : 0 ≤ n) (h1 : n ≤ 65536) : dayV (Cal.cy n) (Cal.cm n) (Cal.cd n) = (n, 0) := by
  rw [dayV_yes (isDate_c n h0 h1), Cal.c_num n h0]
theorem parseV_back (n : Int) (h0 : 0 ≤ n) (h1 : n ≤ 65536) : parseV (dayText n) = (n, 0) := by
  have hy := cy_bd n h0 h1
  have hm := cm_bd n
  have hd := cd_bd n
  have v := day_vals (Cal.cy n).toNat (Cal.cm n).toNat (Cal.cd n).toNat (by omega) (by omega) (by omega)
  rw [dayText_list]
  unfold parseV
  rw [if_pos (day_isText _ _ _), v.1, v.2.1, v.2.2, Int.toNat_of_nonneg (by omega), Int.toNat_of_nonneg (by omega), Int.toNat_of_nonneg (by omega)]
  exact dayV_back n h0 h1

theorem less_append : ∀ (a b x y : List UInt8), a.length = b.length → Op.bytesLess (a ++ x) (b ++ y) = (Op.bytesLess a b || (a == b && Op.bytesLess x y))
  | [], [], x, y, _ => by simp [Op.bytesLess]
  | [], _ :: _, _, _, h => by cases h
  | _ :: _, [], _, _, h => by cases h
  | c :: a, d :: b, x, y, h => by
    have ih := less_append a b x y (by simpa using h)
    simp only [List.cons_append, Op.bytesLess, ih, List.cons_beq_cons]
    cases decide (c < d) <;> cases (c == d) <;> simp
theorem mod_succ (n k : Nat) : n % 10 ^ (k + 1) = n / 10 ^ k % 10 * 10 ^ k + n % 10 ^ k := by
  have h := Nat.mod_mul (x := n) (a := 10 ^ k) (b := 10)
  rw [Nat.pow_succ, h, Nat.mul_comm (n / 10 ^ k % 10), Nat.add_comm]
theorem dg_lt (a b : Nat) (ha : a < 10) (hb : b < 10) : (UInt8.ofNat (48 + a) < UInt8.ofNat (48 + b)) ↔ a < b := by
  rw [UInt8.lt_iff_toNat_lt, UInt8.toNat_ofNat', UInt8.toNat_ofNat']; omega
theorem dg_eq (a b : Nat) (ha : a < 10) (hb : b < 10) : (UInt8.ofNat (48 + a) = UInt8.ofNat (48 + b)) ↔ a = b := by
  rw [← UInt8.toNat_inj, UInt8.toNat_ofNat', UInt8.toNat_ofNat']; omega
theorem digs_less (n m k : Nat) : Op.bytesLess (digs n k) (digs m k) = decide (n % 10 ^ k < m % 10 ^ k) := by
  induction k with
  | zero => simp [digs, Op.bytesLess, Nat.mod_one]
  | succ k ih =>
    have hn : n % 10 ^ k < 10 ^ k := Nat.mod_lt _ (Nat.pow_pos (by omega))
    have hm : m % 10 ^ k < 10 ^ k := Nat.mod_lt _ (Nat.pow_pos (by omega))
    have an : n / 10 ^ k % 10 < 10 := Nat.mod_lt _ (by omega)
    have am : m / 10 ^ k % 10 < 10 := Nat.mod_lt _ (by omega)
    simp only [digs, Op.bytesLess, ih, mod_succ]
    generalize n / 10 ^ k % 10 = a at *
    generalize m / 10 ^ k % 10 = b at *
    generalize 10 ^ k = t at *
    generalize n % t = p at *
    generalize m % t = q at *
    rw [Bool.eq_iff_iff]
    simp only [Bool.or_eq_true, Bool.and_eq_true, decide_eq_true_eq, beq_iff_eq, dg_lt a b an am, dg_eq a b an am]
    constructor
    · rintro (h | ⟨rfl, h⟩)
      · have : (a + 1) * t ≤ b * t := Nat.mul_le_mul_right _ h
        rw [Nat.add_mul] at this; omega
      · omega
    · intro h
      rcases Nat.lt_trichotomy a b with l | l | l
      · exact Or.inl l
      · subst l; exact Or.inr ⟨rfl, by omega⟩
      · have : (b + 1) * t ≤ a * t := Nat.mul_le_mul_right _ l
        rw [Nat.add_mul] at this; omega
theorem digs_same (n m k : Nat) : (digs n k == digs m k) = decide (n % 10 ^ k = m % 10 ^ k) := by
  induction k with
  | zero => simp [digs, Nat.mod_one]
  | succ k ih =>
    have hn : n % 10 ^ k < 10 ^ k := Nat.mod_lt _ (Nat.pow_pos (by omega))
    have hm : m % 10 ^ k < 10 ^ k := Nat.mod_lt _ (Nat.pow_pos (by omega))
    have an : n / 10 ^ k % 10 < 10 := Nat.mod_lt _ (by omega)
    have am : m / 10 ^ k % 10 < 10 := Nat.mod_lt _ (by omega)
    simp only [digs, List.cons_beq_cons, ih, mod_succ]
    generalize n / 10 ^ k % 10 = a at *
    generalize m / 10 ^ k % 10 = b at *
    generalize 10 ^ k = t at *
    generalize n % t = p at *
    generalize m % t = q at *
    rw [Bool.eq_iff_iff]
    simp only [Bool.and_eq_true, decide_eq_true_eq, beq_iff_eq, dg_eq a b an am]
    constructor
    · rintro ⟨rfl, h⟩; omega
    · intro h
      rcases Nat.lt_trichotomy a b with l | l | l
      · have : (a + 1) * t ≤ b * t := Nat.mul_le_mul_right _ l
        rw [Nat.add_mul] at this; omega
      · subst l; exact ⟨rfl, by omega⟩
      · have : (b + 1) * t ≤ a * t := Nat.mul_le_mul_right _ l
        rw [Nat.add_mul] at this; omega
theorem dayText_toList (n : Int) : (dayText n).toList = digs (Cal.cy n).toNat 4 ++ (45 :: (digs (Cal.cm n).toNat 2 ++ (45 :: digs (Cal.cd n).toNat 2))) := by
  rw [ByteArray.toList_eq]
  simp [dayText, d4, d2]
/-- The texts of days are ordered as the days. -/
theorem text_less (n m : Int) (n0 : 0 ≤ n) (n1 : n ≤ 65536) (m0 : 0 ≤ m) (m1 : m ≤ 65536) : Op.bytesLess (dayText n).toList (dayText m).toList = decide (n < m) := by
  have yn := cy_bd n n0 n1; have ym := cy_bd m m0 m1
  have mn := cm_bd n; have mm := cm_bd m
  have dn := cd_bd n; have dm := cd_bd m
  have key := Cal.num_lt_iff (Cal.c_valid n) (Cal.c_valid m)
  rw [Cal.c_num n n0, Cal.c_num m m0] at key
  rw [dayText_toList, dayText_toList, less_append _ _ _ _ (by rw [digs_length, digs_length]), digs_less, digs_same]
  simp only [Op.bytesLess]
  rw [less_append _ _ _ _ (by rw [digs_length, digs_length]), digs_less, digs_same]
  simp only [Op.bytesLess]
  rw [digs_less]
  rw [Nat.mod_eq_of_lt (show (Cal.cy n).toNat < 10 ^ 4 by omega), Nat.mod_eq_of_lt (show (Cal.cy m).toNat < 10 ^ 4 by omega), Nat.mod_eq_of_lt (show (Cal.cm n).toNat < 10 ^ 2 by omega), Nat.mod_eq_of_lt (show (Cal.cm m).toNat < 10 ^ 2 by omega),
    Nat.mod_eq_of_lt (show (Cal.cd n).toNat < 10 ^ 2 by omega), Nat.mod_eq_of_lt (show (Cal.cd m).toNat < 10 ^ 2 by omega)]
  rw [Bool.eq_iff_iff]
  simp
  rw [key]
  omega
end Go.Proofs.YtodlkjdmhfcpkaaDoor
