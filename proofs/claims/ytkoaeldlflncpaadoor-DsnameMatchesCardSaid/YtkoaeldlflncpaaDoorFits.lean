/-
  Matching as a relation: a star part stands for any number of elements, another part for one element that it fits.
-/
import Derived.Test.YtkoaeldlflncpaaDoorPlain
namespace Go.Proofs.YtkoaeldlflncpaaDoor

inductive Fits {α β : Type} (star : α → Bool) (one : α → β → Bool) : List α → List β → Prop
  | nil : Fits star one [] []
  | skip {a : α} {r : List α} {qs : List β} (h : star a = true) (f : Fits star one r qs) : Fits star one (a :: r) qs
  | eat {a : α} {r : List α} {b : β} {t : List β} (h : star a = true) (f : Fits star one (a :: r) t) : Fits star one (a :: r) (b :: t)
  | one {a : α} {r : List α} {b : β} {t : List β} (h : star a = false) (h1 : one a b = true) (f : Fits star one r t) : Fits star one (a :: r) (b :: t)
section
variable {α β : Type} {star : α → Bool} {one : α → β → Bool}
theorem matchL_iff (ps : List α) (qs : List β) : matchL star one ps qs = true ↔ Fits star one ps qs := by
  constructor
  · induction ps generalizing qs with
    | nil =>
      cases qs with
      | nil => exact fun _ => .nil
      | cons b t => exact fun h => by rw [matchL_nil_cons] at h; cases h
    | cons a r ih =>
      cases hs : star a with
      | true =>
        induction qs with
        | nil => intro h; rw [matchL_cons_nil, hs, Bool.true_and] at h; exact .skip hs (ih _ h)
        | cons b t iht =>
          intro h
          rw [matchL_cons, if_pos hs, Bool.or_eq_true] at h
          rcases h with h | h
          · exact .skip hs (ih _ h)
          · exact .eat hs (iht h)
      | false =>
        cases qs with
        | nil => intro h; rw [matchL_cons_nil, hs] at h; cases h
        | cons b t =>
          intro h
          rw [matchL_cons, hs, if_neg (by decide), Bool.and_eq_true] at h
          exact .one hs h.2 (ih _ h.1)
  · intro h
    induction h with
    | nil => rfl
    | @skip a r qs h f ih =>
      cases qs with
      | nil => rw [matchL_cons_nil, h, ih]; rfl
      | cons b t => rw [matchL_cons, if_pos h, ih]; rfl
    | eat h f ih => rw [matchL_cons, if_pos h, ih, Bool.or_true]
    | one h h1 f ih => rw [matchL_cons, h, if_neg (by decide), ih, h1]; rfl
theorem fits_app {ps ps' : List α} {x y : List β} (h : Fits star one ps x) (h' : Fits star one ps' y) : Fits star one (ps ++ ps') (x ++ y) := by
  induction h with
  | nil => exact h'
  | skip h f ih => exact .skip h ih
  | eat h f ih => exact .eat h ih
  | one h h1 f ih => exact .one h h1 ih
theorem fits_split {ps ps' : List α} {qs : List β} (h : Fits star one (ps ++ ps') qs) : ∃ x y, qs = x ++ y ∧ Fits star one ps x ∧ Fits star one ps' y := by
  generalize he : ps ++ ps' = l at h
  induction h generalizing ps with
  | nil =>
    obtain ⟨rfl, rfl⟩ := List.append_eq_nil_iff.1 he
    exact ⟨[], [], rfl, .nil, .nil⟩
  | @skip a r qs h f ih =>
    cases ps with
    | nil => exact ⟨[], qs, rfl, .nil, by simp only [List.nil_append] at he; rw [he]; exact .skip h f⟩
    | cons a' ps =>
      rw [List.cons_append, List.cons.injEq] at he
      obtain ⟨rfl, rfl⟩ := he
      obtain ⟨x, y, rfl, h1, h2⟩ := ih rfl
      exact ⟨x, y, rfl, .skip h h1, h2⟩
  | @eat a r b t h f ih =>
    cases ps with
    | nil => exact ⟨[], b :: t, rfl, .nil, by simp only [List.nil_append] at he; rw [he]; exact .eat h f⟩
    | cons a' ps =>
      have he' := he
      rw [List.cons_append, List.cons.injEq] at he'
      obtain ⟨rfl, rfl⟩ := he'
      obtain ⟨x, y, rfl, h1, h2⟩ := ih he
      exact ⟨b :: x, y, rfl, .eat h h1, h2⟩
  | @one a r b t h ho f ih =>
    cases ps with
    | nil => exact ⟨[], b :: t, rfl, .nil, by simp only [List.nil_append] at he; rw [he]; exact .one h ho f⟩
    | cons a' ps =>
      rw [List.cons_append, List.cons.injEq] at he
      obtain ⟨rfl, rfl⟩ := he
      obtain ⟨x, y, rfl, h1, h2⟩ := ih rfl
      exact ⟨b :: x, y, rfl, .one h ho h1, h2⟩
theorem fits_star {a : α} (h : star a = true) (qs : List β) : Fits star one [a] qs := by
  induction qs with
  | nil => exact .skip h .nil
  | cons b t ih => exact .eat h ih
/-- Parts that match no elements, and are not none, match any. -/
theorem fits_none {ps : List α} (h : Fits star one ps []) (hne : ps ≠ []) (qs : List β) : Fits star one ps qs := by
  cases h with
  | nil => exact absurd rfl hne
  | @skip a r _ h f =>
    have := fits_app (fits_star (one := one) h qs) f
    rw [List.append_nil] at this
    exact this
theorem fits_one_single {a : α} (h : star a = false) {qs : List β} (f : Fits star one [a] qs) : ∃ b, qs = [b] ∧ one a b = true := by
  cases f with
  | skip h' _ => rw [h] at h'; cases h'
  | eat h' _ => rw [h] at h'; cases h'
  | one _ h1 f => cases f; exact ⟨_, rfl, h1⟩
end
end Go.Proofs.YtkoaeldlflncpaaDoor
