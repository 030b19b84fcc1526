/-
  The contracts of Format, the program's and the reference's, and of Weekday.
-/
import Derived.Test.YtodlkjdmhfcpkaaDoorDigits
import Derived.Test.YtodlkjdmhfcpkaaDoorDayA
import Derived.Test.YtodlkjdmhfcpkaaDoorShelf
import Derived.Lib.LaidTab
namespace Go.Proofs.YtodlkjdmhfcpkaaDoor
open Go.RowKit

/-- The library's table of powers of ten stands as its initialiser lays it. -/
def Tab (w : World) : Prop := Lib.TabIs Tryd.prog w "internal/strconv.uint64pow10" .u64 Lib.pow10Tab
theorem Tab.below {w w' : World} (h : Tab w) (hb : Below w.heap.size w w') : Tab w' := by
  unfold Tab Lib.TabIs World.var? at h ⊢
  cases hg : Tryd.prog.globalNamed "internal/strconv.uint64pow10" with
  | none => rw [hg] at h; simp at h
  | some g =>
    rw [hg] at h
    simp only [Option.bind_some] at h ⊢
    have hlt : g < w.heap.size := by
      by_cases k : g < w.heap.size
      · exact k
      · rw [Array.getElem?_eq_none (by omega)] at h; simp at h
    rw [hb.block g hlt]; exact h
theorem below_grow (w : World) (k : Nat) (os : Array Obj) : Below w.heap.size w (Go.Sort.grow (w.drewN k) os) :=
  ⟨rfl, rfl, rfl, by simp, fun i hi => by rw [Go.Sort.heap_grow_old _ _ (by simpa using hi)]; rfl⟩
theorem itoa_any (n : Int) (h0 : -9223372036854775808 ≤ n) (h1 : n ≤ 9223372036854775807) (w : World) (ht : Tab w) :
    Calls Tryd.prog 36 #[.int .i64 n] w fun e w' => e = .returned (.string ⟨(Lib.itoa n).toArray⟩) ∧ Below w.heap.size w w' :=
  (Tryd.strconv_Itoa n h0 h1 w ht).mono fun _ _ ⟨he, k, os, hw⟩ => ⟨he, by rw [hw]; exact below_grow w k os⟩

/-- A number as four digits, as two. -/
def d4 (n : Int) : ByteArray := ⟨(digs n.toNat 4).toArray⟩
def d2 (n : Int) : ByteArray := ⟨(digs n.toNat 2).toArray⟩
theorem d4_size (n : Int) : (d4 n).size = 4 := digs_length _ 4
theorem d2_size (n : Int) : (d2 n).size = 2 := digs_length _ 2
theorem itoa_four (n : Nat) (h1 : 1000 ≤ n) (h2 : n ≤ 9999) : Lib.itoa (n : Int) = digs n 4 := by
  rw [Lib.itoa_nonneg, Lib.decDigits, dif_neg (by omega), Lib.decDigits, dif_neg (by omega), Lib.decDigits, dif_neg (by omega), Lib.decDigits_one (by omega)]
  simp only [digs]
  have e1 : n / 10 / 10 / 10 = n / 10 ^ 3 % 10 := by omega
  have e2 : n / 10 / 10 % 10 = n / 10 ^ 2 % 10 := by omega
  have e3 : n / 10 % 10 = n / 10 ^ 1 % 10 := by omega
  have e4 : n % 10 = n / 10 ^ 0 % 10 := by omega
  rw [e1, e2, e3, ← e4]; rfl
theorem itoa_three (n : Nat) (h2 : n < 100) : Lib.itoa ((n : Int) + 100) = 49 :: digs n 2 := by
  have e : ((n : Int) + 100) = ((n + 100 : Nat) : Int) := by omega
  rw [e, Lib.itoa_nonneg, Lib.decDigits, dif_neg (by omega), Lib.decDigits, dif_neg (by omega), Lib.decDigits_one (by omega)]
  simp only [digs]
  have e1 : (n + 100) / 10 / 10 = 1 := by omega
  have e3 : (n + 100) / 10 % 10 = n / 10 ^ 1 % 10 := by omega
  have e4 : (n + 100) % 10 = n / 10 ^ 0 % 10 := by omega
  rw [e1, e3, e4]; rfl
theorem itoa_year (n : Int) (w : World) (ht : Tab w) (h0 : 1000 ≤ n) (h1 : n ≤ 9999) :
    Calls Tryd.prog 36 #[.int .i64 n] w fun e w' => e = .returned (.string (d4 n)) ∧ Below w.heap.size w w' := by
  obtain ⟨k, rfl⟩ : ∃ k : Nat, n = k := ⟨n.toNat, by omega⟩
  have := itoa_any (k : Int) (by omega) (by omega) w ht
  rw [itoa_four k (by omega) (by omega)] at this
  exact this
theorem itoa_two (n : Int) (w : World) (ht : Tab w) (h0 : 0 ≤ n) (h1 : n < 100) :
    Calls Tryd.prog 36 #[.int .i64 (n + 100)] w fun e w' => e = .returned (.string (⟨#[49]⟩ ++ d2 n)) ∧ Below w.heap.size w w' := by
  obtain ⟨k, rfl⟩ : ∃ k : Nat, n = k := ⟨n.toNat, by omega⟩
  have := itoa_any ((k : Int) + 100) (by omega) (by omega) w ht
  rw [itoa_three k (by omega)] at this
  have e : (⟨(49 :: digs k 2).toArray⟩ : ByteArray) = ⟨#[49]⟩ ++ d2 (k : Int) := by apply ByteArray.ext; simp [d2]
  rw [e] at this
  exact this
theorem digits_four (n : Int) (w : World) (h0 : 0 ≤ n) (h1 : n ≤ 9999) :
    Calls Tryd.prog 37 #[.int .i64 n, .int .i64 4] w fun e w' => e = .returned (.string (d4 n)) ∧ Below w.heap.size w w' := by
  obtain ⟨k, rfl⟩ : ∃ k : Nat, n = k := ⟨n.toNat, by omega⟩
  exact digits_any k 4 w (by omega) (by omega) (by omega)
theorem digits_two (n : Int) (w : World) (h0 : 0 ≤ n) (h1 : n ≤ 99) :
    Calls Tryd.prog 37 #[.int .i64 n, .int .i64 2] w fun e w' => e = .returned (.string (d2 n)) ∧ Below w.heap.size w w' := by
  obtain ⟨k, rfl⟩ : ∃ k : Nat, n = k := ⟨n.toNat, by omega⟩
  exact digits_any k 2 w (by omega) (by omega) (by omega)
/-- The text of a day. -/
def dayText (n : Int) : ByteArray := d4 (Cal.cy n) ++ ⟨#[45]⟩ ++ d2 (Cal.cm n) ++ ⟨#[45]⟩ ++ d2 (Cal.cd n)
theorem cm_bd (n : Int) : 1 ≤ Cal.cm n ∧ Cal.cm n ≤ 12 := ⟨(Cal.c_valid n).m1, (Cal.c_valid n).m12⟩
theorem cd_bd (n : Int) : 1 ≤ Cal.cd n ∧ Cal.cd n ≤ 31 := ⟨(Cal.c_valid n).d1, by have := (Cal.c_valid n).dd; have := Cal.dim_bd (Cal.cy n) (Cal.cm n); omega⟩
theorem cy_bd (n : Int) (h0 : 0 ≤ n) (h1 : n ≤ 65536) : 2000 ≤ Cal.cy n ∧ Cal.cy n ≤ 2179 := ⟨(Cal.c_valid n).y2, Cal.c_year n h0 h1⟩

theorem refFormat_no (n : Int) (w : World) (h : n < 0 ∨ 65536 < n) :
    Calls Tryd.prog 18 #[.int .i64 n] w fun e w' => e = .returned (.string ⟨#[]⟩) ∧ Below w.heap.size w w' := by
  go_enter Tryd.func18, Tryd.ntmps18
  go_wp2_with (go_at_call 33; refine (refIsDay_no _ _ h).mono ?_; rintro e w' ⟨rfl, rfl⟩)
  go_ret
  exact ⟨rfl, Below.refl _ _⟩
theorem format_no (n : Int) (w : World) (h : n < 0 ∨ 65536 < n) :
    Calls Tryd.prog 17 #[.int .i64 n] w fun e w' => e = .returned (.string ⟨#[]⟩) ∧ Below w.heap.size w w' := by
  go_enter Tryd.func17, Tryd.ntmps17
  go_wp2_with (go_at_call 30; refine (isDay_no _ _ h).mono ?_; rintro e w' ⟨rfl, rfl⟩)
  go_ret
  exact ⟨rfl, Below.refl _ _⟩
theorem refFormat_yes (n : Int) (w : World) (h0 : 0 ≤ n) (h1 : n ≤ 65536) :
    Calls Tryd.prog 18 #[.int .i64 n] w fun e w' => e = .returned (.string (dayText n)) ∧ Below w.heap.size w w' := by
  obtain ⟨m1, m2⟩ := cm_bd n
  obtain ⟨d1, d2'⟩ := cd_bd n
  obtain ⟨y1, y2⟩ := cy_bd n h0 h1
  have s4 := d4_size (Cal.cy n)
  have s2 := d2_size (Cal.cm n)
  have s3 := d2_size (Cal.cd n)
  go_enter Tryd.func18, Tryd.ntmps18
  go_wp2_with (first | (go_at_call 33; refine (refIsDay_yes _ _ h0 h1).mono ?_; rintro e w' ⟨rfl, rfl⟩) | (go_at_call 12; refine (refDate_yes _ _ h0 h1).mono ?_; rintro e w' ⟨rfl, rfl⟩))
  refine (digits_four _ _ (by omega) (by omega)).mono ?_
  rintro e w1 ⟨rfl, hb1⟩
  go_wp2_with fail
  refine (digits_two _ _ (by omega) (by omega)).mono ?_
  rintro e w2 ⟨rfl, hb2⟩
  go_wp2_with fail
  refine (digits_two _ _ (by omega) (by omega)).mono ?_
  rintro e w3 ⟨rfl, hb3⟩
  go_wp2_with fail
  go_ret
  exact ⟨rfl, (hb1.trans (hb2.mono hb1.size)).trans (hb3.mono (Nat.le_trans hb1.size hb2.size))⟩
/-- The program's two digits: the last two of three. -/
theorem two_any (n : Int) (w : World) (ht : Tab w) (h0 : 0 ≤ n) (h1 : n < 100) :
    Calls Tryd.prog 35 #[.int .i64 n] w fun e w' => e = .returned (.string (d2 n)) ∧ Below w.heap.size w w' := by
  have s2 := d2_size n
  have he : (⟨#[49]⟩ ++ d2 n : ByteArray).extract 1 3 = d2 n := by
    apply ByteArray.ext
    simp [ByteArray.data_extract]
    exact Or.inr (by omega)
  obtain ⟨t, htt⟩ : ∃ t : ByteArray, t = ⟨#[49]⟩ ++ d2 n := ⟨_, rfl⟩
  have hts : t.size = 3 := by rw [htt, ByteArray.size_append, s2]; rfl
  rw [← htt] at he
  have HT := Lib.hid htt
  clear htt
  go_enter Tryd.func35, Tryd.ntmps35
  go_wp2_with fail
  refine (itoa_two _ _ ht h0 h1).mono ?_
  rintro e w1 ⟨rfl, hb1⟩
  rw [← HT.out]
  go_wp2_with fail
  go_ret
  exact ⟨rfl, hb1⟩
theorem format_yes (n : Int) (w : World) (ht : Tab w) (h0 : 0 ≤ n) (h1 : n ≤ 65536) :
    Calls Tryd.prog 17 #[.int .i64 n] w fun e w' => e = .returned (.string (dayText n)) ∧ Below w.heap.size w w' := by
  obtain ⟨m1, m2⟩ := cm_bd n
  obtain ⟨d1, d2'⟩ := cd_bd n
  obtain ⟨y1, y2⟩ := cy_bd n h0 h1
  have s4 := d4_size (Cal.cy n)
  have s2 := d2_size (Cal.cm n)
  have s3 := d2_size (Cal.cd n)
  have HT := Lib.hid ht
  clear ht
  go_enter Tryd.func17, Tryd.ntmps17
  go_wp2_with (first | (go_at_call 30; refine (isDay_yes _ _ h0 h1).mono ?_; rintro e w' ⟨rfl, rfl⟩) | (go_at_call 11; refine (date_yes _ _ h0 h1).mono ?_; rintro e w0 ⟨rfl, hb0⟩))
  have t0 := Lib.hid (HT.out.below hb0)
  refine (itoa_year _ _ t0.out (by omega) (by omega)).mono ?_
  rintro e w1 ⟨rfl, hb1⟩
  have t1 := Lib.hid (t0.out.below hb1)
  go_wp2_with fail
  refine (two_any _ _ t1.out (by omega) (by omega)).mono ?_
  rintro e w2 ⟨rfl, hb2⟩
  have t2 := Lib.hid (t1.out.below hb2)
  go_wp2_with fail
  refine (two_any _ _ t2.out (by omega) (by omega)).mono ?_
  rintro e w3 ⟨rfl, hb3⟩
  go_wp2_with fail
  go_ret
  exact ⟨rfl, ((hb0.trans (hb1.mono hb0.size)).trans (hb2.mono (Nat.le_trans hb0.size hb1.size))).trans (hb3.mono (Nat.le_trans hb0.size (Nat.le_trans hb1.size hb2.size)))⟩
theorem weekday_yes (n : Int) (w : World) (h0 : 0 ≤ n) (h1 : n ≤ 65536) :
    Calls Tryd.prog 19 #[.int .i64 n] w fun e w' => e = .returned (.int .i64 ((n + 5) % 7)) ∧ w = w' := by
  go_enter Tryd.func19, Tryd.ntmps19
  go_wp2_with (go_at_call 30; refine (isDay_yes _ _ h0 h1).mono ?_; rintro e w' ⟨rfl, rfl⟩)
  go_ret
  exact ⟨rfl, rfl⟩
theorem weekday_no (n : Int) (w : World) (h : n < 0 ∨ 65536 < n) :
    Calls Tryd.prog 19 #[.int .i64 n] w fun e w' => e = .returned (.int .i64 (-1)) ∧ w = w' := by
  go_enter Tryd.func19, Tryd.ntmps19
  go_wp2_with (go_at_call 30; refine (isDay_no _ _ h).mono ?_; rintro e w' ⟨rfl, rfl⟩)
  go_ret
  exact ⟨rfl, rfl⟩
theorem refWeekday_yes (n : Int) (w : World) (h0 : 0 ≤ n) (h1 : n ≤ 65536) :
    Calls Tryd.prog 20 #[.int .i64 n] w fun e w' => e = .returned (.int .i64 ((n + 5) % 7)) ∧ w = w' := by
  go_enter Tryd.func20, Tryd.ntmps20
  go_wp2_with (go_at_call 33; refine (refIsDay_yes _ _ h0 h1).mono ?_; rintro e w' ⟨rfl, rfl⟩)
  go_ret
  exact ⟨rfl, rfl⟩
theorem refWeekday_no (n : Int) (w : World) (h : n < 0 ∨ 65536 < n) :
    Calls Tryd.prog 20 #[.int .i64 n] w fun e w' => e = .returned (.int .i64 (-1)) ∧ w = w' := by
  go_enter Tryd.func20, Tryd.ntmps20
  go_wp2_with (go_at_call 33; refine (refIsDay_no _ _ h).mono ?_; rintro e w' ⟨rfl, rfl⟩)
  go_ret
  exact ⟨rfl, rfl⟩
end Go.Proofs.YtodlkjdmhfcpkaaDoor
