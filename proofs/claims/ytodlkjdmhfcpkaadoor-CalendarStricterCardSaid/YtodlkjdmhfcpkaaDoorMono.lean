/-
  Plain facts on decisions: they never fall with time, nor with a stricter policy.
-/
import Derived.Test.YtodlkjdmhfcpkaaDoorDecide
namespace Go.Proofs.YtodlkjdmhfcpkaaDoor

/-- The decision out of its tests. -/
def decB (E K ar A U : Bool) : Int := if (E && (K || ar && A)) = true then 2 else if (!ar && U) = true then 1 else 0
theorem decB_mono : ∀ E E' K K' ar A A' U U' : Bool, (E = true → E' = true) → (K = true → K' = true) → (A = true → A' = true) → (U = true → U' = true) → decB E K ar A U ≤ decB E' K' ar A' U' := by decide
theorem decB_nonneg : ∀ E K ar A U : Bool, 0 ≤ decB E K ar A U := by decide
theorem decI_eq (kp un ac cr us ex : Int) (ar : Bool) (t : Int) : decI kp un ac cr us ex ar t = if (isD kp && isD un && isD ac && fitB cr us ex t) = true then decB (expB cr us ex t) (reachB kp (t - cr)) ar (reachB ac (t - max cr us)) (reachB un (t - max cr us)) else 0 := rfl
theorem reachB_mono {l n n' : Int} (h : n ≤ n') : reachB l n = true → reachB l n' = true := by
  unfold reachB; simp only [Bool.and_eq_true, decide_eq_true_eq]; omega
theorem dec_mono (kp un ac cr us ex : Int) (ar : Bool) {t t' : Int} (h : t ≤ t') (h0 : isD t = true) (h1 : isD t' = true) : decI kp un ac cr us ex ar t ≤ decI kp un ac cr us ex ar t' := by
  have e : fitB cr us ex t = fitB cr us ex t' := by unfold fitB; rw [h0, h1]
  rw [decI_eq, decI_eq, e]
  by_cases hv : (isD kp && isD un && isD ac && fitB cr us ex t') = true
  · rw [if_pos hv, if_pos hv]
    refine decB_mono _ _ _ _ _ _ _ _ _ ?_ (reachB_mono (by omega)) (reachB_mono (by omega)) (reachB_mono (by omega))
    unfold expB
    rw [e]
    simp only [Bool.and_eq_true, Bool.or_eq_true, decide_eq_true_eq, beq_iff_eq]
    rintro ⟨a, b⟩
    exact ⟨a, b.imp id fun h' => by omega⟩
  · rw [if_neg hv, if_neg hv]; exact Int.le_refl _
/-- One number of a policy is stricter than another. -/
def strictB (a b : Int) : Bool := (a == 0 && decide (0 ≤ b) && isD b) || (decide (0 < b) && decide (b ≤ a))
theorem strict_reach {a b n : Int} (h : strictB a b = true) : reachB a n = true → reachB b n = true := by
  unfold strictB at h
  unfold reachB
  simp only [Bool.or_eq_true, Bool.and_eq_true, decide_eq_true_eq, beq_iff_eq] at h ⊢
  omega
theorem strict_day {a b : Int} (h : strictB a b = true) (ha : isD a = true) : isD b = true := by
  unfold strictB at h
  have := isD_true.1 ha
  simp only [Bool.or_eq_true, Bool.and_eq_true, decide_eq_true_eq, beq_iff_eq] at h
  rcases h with h | h
  · exact h.2
  · exact isD_true.2 (by omega)
theorem dec_strict (kp un ac kq uq aq cr us ex : Int) (ar : Bool) (t : Int) (h1 : strictB kp kq = true) (h2 : strictB un uq = true) (h3 : strictB ac aq = true) : decI kp un ac cr us ex ar t ≤ decI kq uq aq cr us ex ar t := by
  rw [decI_eq, decI_eq]
  by_cases hv : (isD kp && isD un && isD ac && fitB cr us ex t) = true
  · have hv' : (isD kq && isD uq && isD aq && fitB cr us ex t) = true := by
      simp only [Bool.and_eq_true] at hv ⊢
      exact ⟨⟨⟨strict_day h1 hv.1.1.1, strict_day h2 hv.1.1.2⟩, strict_day h3 hv.1.2⟩, hv.2⟩
    rw [if_pos hv, if_pos hv']
    exact decB_mono _ _ _ _ _ _ _ _ _ id (strict_reach h1) (strict_reach h3) (strict_reach h2)
  · rw [if_neg hv]
    split
    · exact decB_nonneg _ _ _ _ _
    · exact Int.le_refl _
end Go.Proofs.YtodlkjdmhfcpkaaDoor
