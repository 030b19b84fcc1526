/-
  Plain arithmetic of the calendar: months, years, and the date of each day from 2000-01-01 on. No program in sight.
-/
namespace Go.Proofs.YtodlkjdmhfcpkaaDoor.Cal

/-- A leap year. -/
def lp (y : Int) : Bool := (y % 4 == 0 && !(y % 100 == 0)) || y % 400 == 0
def lpI (y : Int) : Int := if lp y = true then 1 else 0
theorem lpI_01 (y : Int) : 0 ≤ lpI y ∧ lpI y ≤ 1 := by unfold lpI; split <;> omega
theorem lp_iff (y : Int) : lp y = true ↔ (y % 4 = 0 ∧ y % 100 ≠ 0) ∨ y % 400 = 0 := by
  unfold lp; simp
/-- The number of January 1. -/
def fst (y : Int) : Int := 365 * (y - 2000) + (y - 2000 + 3) / 4 - (y - 2000 + 99) / 100 + (y - 2000 + 399) / 400
theorem fst_succ (y : Int) (_h : 2000 ≤ y) : fst (y + 1) = fst y + 365 + lpI y := by
  unfold lpI
  split
  · rename_i e
    have := (lp_iff y).1 e
    unfold fst; omega
  · rename_i e
    have : ¬ ((y % 4 = 0 ∧ y % 100 ≠ 0) ∨ y % 400 = 0) := fun k => e ((lp_iff y).2 k)
    unfold fst; omega
theorem fst_mono (a b : Int) (_h0 : 2000 ≤ a) (h : a ≤ b) : fst a ≤ fst b := by unfold fst; omega
theorem fst_lt (a b : Int) (h0 : 2000 ≤ a) (h : a < b) : fst a + 365 + lpI a ≤ fst b := by
  rw [← fst_succ a h0]; exact fst_mono _ _ (by omega) (by omega)
theorem fst_bd (y : Int) (h0 : 2000 ≤ y) (h : y ≤ 10000) : 0 ≤ fst y ∧ fst y ≤ 3652425 := by unfold fst; omega
theorem fst_top : fst 2180 = 65744 := by decide
theorem fst_zero : fst 2000 = 0 := by decide
/-- The first guess of a year. -/
theorem fst_guess (n : Int) (h0 : 0 ≤ n) (h1 : n ≤ 65536) : fst (2000 + n / 366) ≤ n := by unfold fst; omega

/-- The days of a month. -/
def dim (y m : Int) : Int := if m = 2 then 28 + lpI y else if m = 4 ∨ m = 6 ∨ m = 9 ∨ m = 11 then 30 else 31
theorem dim_bd (y m : Int) : 28 ≤ dim y m ∧ dim y m ≤ 31 := by
  have := lpI_01 y
  unfold dim; split
  · omega
  · split <;> omega
/-- The days of a year before a month. -/
def cum (y m : Int) : Int :=
  if m ≤ 1 then 0 else if m = 2 then 31 else if m = 3 then 59 + lpI y else if m = 4 then 90 + lpI y else if m = 5 then 120 + lpI y else if m = 6 then 151 + lpI y
  else if m = 7 then 181 + lpI y else if m = 8 then 212 + lpI y else if m = 9 then 243 + lpI y else if m = 10 then 273 + lpI y else if m = 11 then 304 + lpI y
  else if m = 12 then 334 + lpI y else 365 + lpI y
theorem cum_one (y : Int) : cum y 1 = 0 := rfl
theorem cum_13 (y : Int) : cum y 13 = 365 + lpI y := rfl
theorem cum_succ (y m : Int) (h1 : 1 ≤ m) (h2 : m ≤ 12) : cum y (m + 1) = cum y m + dim y m := by
  have h : m = 1 ∨ m = 2 ∨ m = 3 ∨ m = 4 ∨ m = 5 ∨ m = 6 ∨ m = 7 ∨ m = 8 ∨ m = 9 ∨ m = 10 ∨ m = 11 ∨ m = 12 := by omega
  rcases h with rfl | rfl | rfl | rfl | rfl | rfl | rfl | rfl | rfl | rfl | rfl | rfl <;> simp [cum, dim] <;> omega
theorem cum_bd (y m : Int) (h1 : 1 ≤ m) (h2 : m ≤ 13) : 0 ≤ cum y m ∧ cum y m ≤ 365 + lpI y := by
  have := lpI_01 y
  have h : m = 1 ∨ m = 2 ∨ m = 3 ∨ m = 4 ∨ m = 5 ∨ m = 6 ∨ m = 7 ∨ m = 8 ∨ m = 9 ∨ m = 10 ∨ m = 11 ∨ m = 12 ∨ m = 13 := by omega
  rcases h with rfl | rfl | rfl | rfl | rfl | rfl | rfl | rfl | rfl | rfl | rfl | rfl | rfl <;> simp [cum] <;> omega
theorem cum_lt (y a b : Int) (h1 : 1 ≤ a) (h : a < b) (h2 : b ≤ 13) : cum y a + dim y a ≤ cum y b := by
  have e := cum_succ y a h1 (by omega)
  have g : ∀ k : Nat, a + 1 + k ≤ 13 → cum y (a + 1) ≤ cum y (a + 1 + k) := by
    intro k
    induction k with
    | zero => intro _; simp
    | succ k ih =>
      intro hk
      have := ih (by omega)
      have s := cum_succ y (a + 1 + k) (by omega) (by omega)
      have db := dim_bd y (a + 1 + k)
      have ek : a + 1 + ((k + 1 : Nat) : Int) = a + 1 + k + 1 := by omega
      rw [ek]; omega
  have := g (b - (a + 1)).toNat (by omega)
  have eb : a + 1 + ((b - (a + 1)).toNat : Int) = b := by omega
  rw [eb] at this; omega

/-- The number of a date. -/
def num (y m d : Int) : Int := fst y + cum y m + d - 1
/-- A date that is one. -/
structure Valid (y m d : Int) : Prop where
  y2 : 2000 ≤ y
  m1 : 1 ≤ m
  m12 : m ≤ 12
  d1 : 1 ≤ d
  dd : d ≤ dim y m
theorem Valid.lo {y m d : Int} (h : Valid y m d) : fst y + cum y m ≤ num y m d := by have := h.d1; unfold num; omega
theorem Valid.hi {y m d : Int} (h : Valid y m d) : num y m d < fst y + cum y (m + 1) := by
  have := h.dd; have := cum_succ y m h.m1 h.m12; unfold num; omega
theorem Valid.year {y m d : Int} (h : Valid y m d) : fst y ≤ num y m d ∧ num y m d < fst (y + 1) := by
  have a := h.lo; have b := h.hi
  have c := cum_bd y m h.m1 (by have := h.m12; omega)
  have c2 := cum_bd y (m + 1) (by have := h.m1; omega) (by have := h.m12; omega)
  have e := fst_succ y h.y2
  exact ⟨by omega, by omega⟩
/-- Dates are ordered as their numbers. -/
theorem num_lt_of {y m d y' m' d' : Int} (h : Valid y m d) (h' : Valid y' m' d') (hl : y < y' ∨ (y = y' ∧ (m < m' ∨ (m = m' ∧ d < d')))) : num y m d < num y' m' d' := by
  rcases hl with hl | ⟨rfl, hl | ⟨rfl, hl⟩⟩
  · have a := h.year; have b := h'.year
    have := fst_mono (y + 1) y' (by have := h.y2; omega) (by omega)
    omega
  · have a := h.hi; have b := h'.lo
    have c := cum_lt y m m' h.m1 hl (by have := h'.m12; omega)
    have e := cum_succ y m h.m1 h.m12
    omega
  · unfold num; omega
theorem num_lt_iff {y m d y' m' d' : Int} (h : Valid y m d) (h' : Valid y' m' d') : num y m d < num y' m' d' ↔ (y < y' ∨ (y = y' ∧ (m < m' ∨ (m = m' ∧ d < d')))) := by
  constructor
  · intro hn
    by_cases k : (y < y' ∨ (y = y' ∧ (m < m' ∨ (m = m' ∧ d < d'))))
    · exact k
    · exfalso
      by_cases e : y' = y ∧ m' = m ∧ d' = d
      · obtain ⟨rfl, rfl, rfl⟩ := e; omega
      · have := num_lt_of h' h (by omega); omega
  · exact num_lt_of h h'
theorem uniq {y m d y' m' d' : Int} (h : Valid y m d) (h' : Valid y' m' d') (e : num y m d = num y' m' d') : y = y' ∧ m = m' ∧ d = d' := by
  by_cases k : y = y' ∧ m = m' ∧ d = d'
  · exact k
  · exfalso
    by_cases l : (y < y' ∨ (y = y' ∧ (m < m' ∨ (m = m' ∧ d < d'))))
    · have := num_lt_of h h' l; omega
    · have := num_lt_of h' h (by omega); omega

/-- The next date. -/
def next (t : Int × Int × Int) : Int × Int × Int :=
  if t.2.2 < dim t.1 t.2.1 then (t.1, t.2.1, t.2.2 + 1) else if t.2.1 < 12 then (t.1, t.2.1 + 1, 1) else (t.1 + 1, 1, 1)
theorem next_valid {t : Int × Int × Int} (h : Valid t.1 t.2.1 t.2.2) : Valid (next t).1 (next t).2.1 (next t).2.2 := by
  obtain ⟨y, m, d⟩ := t
  have hy := h.y2; have h1 := h.m1; have h2 := h.m12; have h3 := h.d1; have h4 := h.dd
  simp only at hy h1 h2 h3 h4
  unfold next
  split
  · rename_i e; simp only at e; exact ⟨hy, h1, h2, by simp only; omega, by simp only; omega⟩
  · split
    · rename_i e; simp only at e; exact ⟨hy, by simp only; omega, by simp only; omega, by simp, by have := dim_bd y (m + 1); simp only; omega⟩
    · exact ⟨by simp only; omega, by simp, by simp, by simp, by have := dim_bd (y + 1) 1; simp only; omega⟩
theorem next_num {t : Int × Int × Int} (h : Valid t.1 t.2.1 t.2.2) : num (next t).1 (next t).2.1 (next t).2.2 = num t.1 t.2.1 t.2.2 + 1 := by
  obtain ⟨y, m, d⟩ := t
  have hy := h.y2; have h1 := h.m1; have h2 := h.m12; have h3 := h.d1; have h4 := h.dd
  simp only at hy h1 h2 h3 h4
  unfold next
  split
  · simp only [num]; omega
  · rename_i e; simp only at e
    have c := cum_succ y m h1 h2
    split
    · simp only [num]; omega
    · rename_i e'; simp only at e'
      obtain rfl : m = 12 := by omega
      have f := fst_succ y hy
      have g : cum y (12 + 1) = 365 + lpI y := cum_13 y
      have g1 := cum_one (y + 1)
      simp only [num]; omega
/-- The date of a day. -/
def dateOf : Nat → Int × Int × Int
  | 0 => (2000, 1, 1)
  | n + 1 => next (dateOf n)
theorem dateOf_ok (n : Nat) : Valid (dateOf n).1 (dateOf n).2.1 (dateOf n).2.2 ∧ num (dateOf n).1 (dateOf n).2.1 (dateOf n).2.2 = n := by
  induction n with
  | zero => exact ⟨⟨by decide, by decide, by decide, by decide, by decide⟩, by decide⟩
  | succ n ih =>
    refine ⟨next_valid ih.1, ?_⟩
    have := next_num ih.1
    rw [ih.2] at this
    rw [dateOf, this]; omega
def cy (n : Int) : Int := (dateOf n.toNat).1
def cm (n : Int) : Int := (dateOf n.toNat).2.1
def cd (n : Int) : Int := (dateOf n.toNat).2.2
theorem c_valid (n : Int) : Valid (cy n) (cm n) (cd n) := (dateOf_ok n.toNat).1
theorem c_num (n : Int) (h : 0 ≤ n) : num (cy n) (cm n) (cd n) = n := by
  have := (dateOf_ok n.toNat).2
  unfold cy cm cd; rw [this]; omega
theorem c_of (n y m d : Int) (h0 : 0 ≤ n) (h : Valid y m d) (e : num y m d = n) : cy n = y ∧ cm n = m ∧ cd n = d :=
  uniq (c_valid n) h (by rw [c_num n h0, e])
theorem year_le (y m d : Int) (h : Valid y m d) (hn : num y m d ≤ 65743) : y ≤ 2179 := by
  by_cases k : y ≤ 2179
  · exact k
  · exfalso
    have := h.year
    have b := fst_mono 2180 y (by omega) (by omega)
    rw [fst_top] at b; omega
theorem c_year (n : Int) (h0 : 0 ≤ n) (h1 : n ≤ 65536) : cy n ≤ 2179 := year_le _ _ _ (c_valid n) (by rw [c_num n h0]; omega)
theorem c_next (n : Int) (h0 : 0 ≤ n) : (cy (n + 1), cm (n + 1), cd (n + 1)) = next (cy n, cm n, cd n) := by
  have e : (n + 1).toNat = n.toNat + 1 := by omega
  unfold cy cm cd; rw [e, dateOf]
end Go.Proofs.YtodlkjdmhfcpkaaDoor.Cal
