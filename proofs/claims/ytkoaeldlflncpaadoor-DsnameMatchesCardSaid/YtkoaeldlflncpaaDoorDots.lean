/-
  Plain facts on the parts of a text between full stops, over lists of bytes.
-/
import Derived.Lib.SplitLaws
import Derived.Lib.Join
namespace Go.Proofs.YtkoaeldlflncpaaDoor

/-- The parts of a list between full stops. -/
def partsL : List UInt8 → List (List UInt8)
  | [] => [[]]
  | c :: r => if c = 46 then [] :: partsL r else
    match partsL r with
    | [] => [[c]]
    | x :: xs => (c :: x) :: xs
/-- Texts with full stops between them. -/
def joinL : List (List UInt8) → List UInt8
  | [] => []
  | [x] => x
  | x :: y :: r => x ++ 46 :: joinL (y :: r)

theorem joinL_cons (x : List UInt8) {r : List (List UInt8)} (h : r ≠ []) : joinL (x :: r) = x ++ 46 :: joinL r := by
  cases r with
  | nil => exact absurd rfl h
  | cons y r => rfl
theorem join_is (xs : List (List UInt8)) : Lib.join xs [46] = joinL xs := by
  induction xs with
  | nil => rfl
  | cons x r ih =>
    cases r with
    | nil => simp [Lib.join, joinL, List.intercalate]
    | cons y r =>
      have : Lib.join (x :: y :: r) [46] = x ++ [46] ++ Lib.join (y :: r) [46] := by simp [Lib.join, List.intercalate, List.intersperse]
      rw [this, ih, joinL]; simp
theorem partsL_ne (l : List UInt8) : partsL l ≠ [] := by
  cases l with
  | nil => simp [partsL]
  | cons c r => unfold partsL; split
                · simp
                · split <;> simp
theorem partsL_dot (r : List UInt8) : partsL (46 :: r) = [] :: partsL r := by simp [partsL]
theorem partsL_other {c : UInt8} {r : List UInt8} (h : c ≠ 46) : ∃ x xs, partsL r = x :: xs ∧ partsL (c :: r) = (c :: x) :: xs := by
  cases hp : partsL r with
  | nil => exact absurd hp (partsL_ne r)
  | cons x xs => exact ⟨x, xs, rfl, by simp [partsL, h, hp]⟩
theorem partsL_none {l : List UInt8} (h : 46 ∉ l) : partsL l = [l] := by
  induction l with
  | nil => rfl
  | cons c r ih =>
    have hc : c ≠ 46 := fun e => h (by simp [e])
    have hr := ih (fun e => h (by simp [e]))
    simp [partsL, hc, hr]
theorem partsL_append (a b : List UInt8) : partsL (a ++ 46 :: b) = partsL a ++ partsL b := by
  induction a with
  | nil => simp [partsL_dot, partsL]
  | cons c r ih =>
    by_cases hc : c = 46
    · subst hc; rw [List.cons_append, partsL_dot, partsL_dot, ih]; rfl
    · obtain ⟨x, xs, h1, h2⟩ := partsL_other (r := r) hc
      obtain ⟨y, ys, h3, h4⟩ := partsL_other (r := r ++ 46 :: b) hc
      rw [List.cons_append, h2, h4]
      rw [ih, h1] at h3
      simp at h3
      obtain ⟨rfl, rfl⟩ := h3
      rfl
theorem partsL_nodot (l : List UInt8) : ∀ x ∈ partsL l, 46 ∉ x := by
  induction l with
  | nil => intro x hx; simp [partsL] at hx; simp [hx]
  | cons c r ih =>
    by_cases hc : c = 46
    · subst hc; rw [partsL_dot]
      intro x hx
      rcases List.mem_cons.1 hx with rfl | hx
      · simp
      · exact ih x hx
    · obtain ⟨y, ys, h1, h2⟩ := partsL_other (r := r) hc
      rw [h2]
      rw [h1] at ih
      intro x hx
      rcases List.mem_cons.1 hx with rfl | hx
      · have := ih y (by simp)
        intro hm
        rcases List.mem_cons.1 hm with e | e
        · exact hc e.symm
        · exact this e
      · exact ih x (by simp [hx])
theorem join_parts (l : List UInt8) : joinL (partsL l) = l := by
  induction l with
  | nil => rfl
  | cons c r ih =>
    by_cases hc : c = 46
    · subst hc; rw [partsL_dot, joinL_cons _ (partsL_ne r), ih]; rfl
    · obtain ⟨y, ys, h1, h2⟩ := partsL_other (r := r) hc
      rw [h2]
      rw [h1] at ih
      cases ys with
      | nil => simp only [joinL] at ih ⊢; rw [ih]
      | cons z zs => rw [joinL_cons _ (by simp)] at ih ⊢; rw [List.cons_append, ih]
theorem parts_join {xs : List (List UInt8)} (hne : xs ≠ []) (h : ∀ x ∈ xs, 46 ∉ x) : partsL (joinL xs) = xs := by
  induction xs with
  | nil => exact absurd rfl hne
  | cons x r ih =>
    cases r with
    | nil => exact partsL_none (h x (by simp))
    | cons y r =>
      rw [joinL_cons _ (by simp), partsL_append, partsL_none (h x (by simp)), ih (by simp) (fun z hz => h z (by simp [hz]))]
      rfl
theorem partsL_length (l : List UInt8) : (partsL l).length = l.count 46 + 1 := by
  induction l with
  | nil => rfl
  | cons c r ih =>
    by_cases hc : c = 46
    · subst hc; rw [partsL_dot, List.length_cons, ih]; simp
    · obtain ⟨y, ys, h1, h2⟩ := partsL_other (r := r) hc
      rw [h2]; rw [h1] at ih
      simp only [List.length_cons] at ih ⊢
      rw [ih, List.count_cons_of_ne (by simpa using hc)]
theorem index_dot (r : List UInt8) : Lib.index (46 :: r) [46] = 0 := by
  rw [Lib.index]; simp [List.isPrefixOf]
/-- The kit's split at one full stop is ours. -/
theorem splitK_is : ∀ (l : List UInt8), Lib.splitK [46] 0 (l.count 46) l = partsL l := by
  intro l
  induction l with
  | nil => rfl
  | cons c r ih =>
    by_cases hc : c = 46
    · subst hc
      rw [List.count_cons_self, partsL_dot, ← ih]
      simp [Lib.splitK, index_dot]
    · obtain ⟨y, ys, h1, h2⟩ := partsL_other (r := r) hc
      rw [List.count_cons_of_ne (by simpa using hc), h2]
      rw [h1] at ih
      have hp : ([46] : List UInt8).isPrefixOf (c :: r) = false := by simp [List.isPrefixOf, Ne.symm hc]
      have hix : Lib.index (c :: r) [46] = if Lib.index r [46] == -1 then -1 else Lib.index r [46] + 1 := by rw [Lib.index, hp]; simp
      cases hn : r.count 46 with
      | zero =>
        rw [hn] at ih
        simp only [Lib.splitK] at ih ⊢
        rw [List.cons.injEq] at ih
        rw [ih.1, ih.2]
      | succ n =>
        rw [hn] at ih
        simp only [Lib.splitK] at ih ⊢
        by_cases hm : Lib.index r [46] = -1
        · simp only [hm, beq_self_eq_true, if_true] at ih hix
          simp only [hix, beq_self_eq_true, if_true]
          rw [List.cons.injEq] at ih
          rw [ih.1, ih.2]
        · have hge := Lib.index_ge r [46]
          have hb : (Lib.index r [46] == -1) = false := by simpa using hm
          rw [hb] at ih hix
          simp only [Bool.false_eq_true, if_false] at ih hix
          have hb2 : (Lib.index (c :: r) [46] == -1) = false := by rw [hix]; simp; omega
          rw [hb2]
          simp only [Bool.false_eq_true, if_false]
          have e : (Lib.index (c :: r) [46]).toNat = (Lib.index r [46]).toNat + 1 := by rw [hix]; omega
          rw [List.cons.injEq] at ih
          rw [e, ← ih.1, ← ih.2]
          simp
end Go.Proofs.YtkoaeldlflncpaaDoor
