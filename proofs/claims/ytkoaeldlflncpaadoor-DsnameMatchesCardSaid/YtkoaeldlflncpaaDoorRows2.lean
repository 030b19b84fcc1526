/-
  Matching by rows, from the front: row i tells for each number of elements whether the first i parts match that many; and a row in memory.
-/
import Derived.Test.YtkoaeldlflncpaaDoorRefForms
import Derived.OwnWalk
namespace Go.Proofs.YtkoaeldlflncpaaDoor
open Go.RowKit Go.PlainAid

section
variable {α β : Type} (star : α → Bool) (one : α → β → Bool) (ps : List α) (qs : List β)
/-- Whether the first i parts match the first k elements. -/
def pre (i k : Nat) : Bool := matchL star one (ps.take i) (qs.take k)
variable {star one ps qs}
theorem pre_iff (i k : Nat) : pre star one ps qs i k = true ↔ Fits star one (ps.take i) (qs.take k) := matchL_iff _ _
theorem pre_zero {k : Nat} (hk : k ≤ qs.length) : pre star one ps qs 0 k = decide (k = 0) := by
  unfold pre
  cases k with
  | zero => rfl
  | succ k =>
    rw [List.take_zero, show qs.take (k + 1) = qs.take k ++ [qs[k]] from (List.take_append_getElem hk).symm]
    cases qs.take k with
    | nil => rfl
    | cons b t => rfl
theorem pre_all : pre star one ps qs ps.length qs.length = matchL star one ps qs := by
  unfold pre; rw [List.take_length, List.take_length]
theorem take_snoc {γ : Type} {l : List γ} {i : Nat} {a : γ} (h : l[i]? = some a) : l.take (i + 1) = l.take i ++ [a] := by
  rw [List.take_add_one, h]; rfl
theorem pre_star0 {i : Nat} {a : α} (h : ps[i]? = some a) (hs : star a = true) : pre star one ps qs (i + 1) 0 = pre star one ps qs i 0 := by
  rw [Bool.eq_iff_iff, pre_iff, pre_iff, take_snoc h, List.take_zero]
  constructor
  · intro hf
    obtain ⟨u, v, e, h1, _⟩ := fits_split hf
    obtain ⟨rfl, rfl⟩ := List.append_eq_nil_iff.1 e.symm
    exact h1
  · intro hf
    exact fits_app hf (fits_star hs [])
theorem pre_star {i k : Nat} {a : α} (h : ps[i]? = some a) (hs : star a = true) (hk : k < qs.length) : pre star one ps qs (i + 1) (k + 1) = (pre star one ps qs i (k + 1) || pre star one ps qs (i + 1) k) := by
  have hq := take_snoc (l := qs) (i := k) (List.getElem?_eq_getElem hk)
  rw [Bool.eq_iff_iff, Bool.or_eq_true, pre_iff, pre_iff, pre_iff, take_snoc h]
  constructor
  · intro hf
    obtain ⟨u, v, e, h1, h2⟩ := fits_split hf
    rcases List.eq_nil_or_concat v with rfl | ⟨v', b, rfl⟩
    · rw [List.append_nil] at e; rw [e]; exact .inl h1
    · right
      rw [hq, List.concat_eq_append, ← List.append_assoc] at e
      have := List.append_inj_left' e rfl
      rw [this]
      exact fits_app h1 (fits_star hs v')
  · rintro (hf | hf)
    · have := fits_app hf (fits_star (one := one) hs [])
      rwa [List.append_nil] at this
    · obtain ⟨u, v, e, h1, h2⟩ := fits_split hf
      rw [hq, e, List.append_assoc]
      exact fits_app h1 (fits_star hs _)
theorem pre_one0 {i : Nat} {a : α} (h : ps[i]? = some a) (hs : star a = false) : pre star one ps qs (i + 1) 0 = false := by
  cases hp : pre star one ps qs (i + 1) 0 with
  | false => rfl
  | true =>
    rw [pre_iff, take_snoc h, List.take_zero] at hp
    obtain ⟨u, v, e, _, h2⟩ := fits_split hp
    obtain ⟨rfl, rfl⟩ := List.append_eq_nil_iff.1 e.symm
    obtain ⟨b, e, _⟩ := fits_one_single hs h2
    cases e
theorem pre_one {i k : Nat} {a : α} {b : β} (h : ps[i]? = some a) (hs : star a = false) (hb : qs[k]? = some b) : pre star one ps qs (i + 1) (k + 1) = (pre star one ps qs i k && one a b) := by
  rw [Bool.eq_iff_iff, Bool.and_eq_true, pre_iff, pre_iff, take_snoc h, take_snoc hb]
  constructor
  · intro hf
    obtain ⟨u, v, e, h1, h2⟩ := fits_split hf
    obtain ⟨b', rfl, h3⟩ := fits_one_single hs h2
    obtain ⟨rfl, e2⟩ := List.append_inj' e rfl
    cases e2
    exact ⟨h1, h3⟩
  · rintro ⟨hf, h1⟩
    exact fits_app hf (.one hs h1 .nil)
end

/-! A row in memory. -/
theorem info4 : (Tryd.prog.info? 4).map (fun i => (i.zero, i.size, i.bytes)) = some (some (.bool false), 1, 1) := by kernel_rfl
/-- The cells 0 to n of block B. -/
structure RowB (w : World) (B n : Nat) (f : Nat → Bool) : Prop where
  c : ∀ k, k ≤ n → w.cell? ⟨B, k, none⟩ = some (.bool (f k))
  z : ∀ k, w.frozen? ⟨B, k, none⟩ = false
theorem RowB.lt {w : World} {B n : Nat} {f : Nat → Bool} (h : RowB w B n f) : B < w.heap.size := World.block_lt_of_cell? _ _ (h.c 0 (Nat.zero_le _))
theorem RowB.below {w w' : World} {B n : Nat} {f : Nat → Bool} (h : RowB w B n f) (hb : Below w.heap.size w w') : RowB w' B n f :=
  ⟨fun k hk => by rw [hb.cell h.lt]; exact h.c k hk, fun k => by rw [hb.frozen h.lt]; exact h.z k⟩
theorem RowB.drew {w : World} {B n : Nat} {f : Nat → Bool} (h : RowB w B n f) : RowB w.drew B n f := ⟨h.c, h.z⟩
theorem RowB.put {w : World} {B n : Nat} {f : Nat → Bool} (h : RowB w B n f) {k : Nat} (hk : k ≤ n) (b : Bool) : RowB (w.setCell ⟨B, k, none⟩ (.bool b)) B n (fun j => if j = k then b else f j) := by
  refine ⟨fun j hj => ?_, fun j => ?_⟩
  · by_cases e : j = k
    · subst e; rw [if_pos rfl]; exact World.cell?_setCell_same _ _ _ (h.c j hj)
    · rw [if_neg e, World.cell?_setCell_other _ _ _ _ (by intro q; have := congrArg Addr.off q; simp only at this; omega)]; exact h.c j hj
  · rw [World.frozen?_setCell]; exact h.z j
theorem RowB.other {w : World} {B n : Nat} {f : Nat → Bool} (h : RowB w B n f) {C k : Nat} (hC : B ≠ C) (v : Value) : RowB (w.setCell ⟨C, k, none⟩ v) B n f :=
  ⟨fun j hj => by rw [World.cell?_setCell_other _ _ _ _ (by intro q; have := congrArg Addr.block q; simp only at this; omega)]; exact h.c j hj, fun j => by rw [World.frozen?_setCell]; exact h.z j⟩
/-- What 'make' lays. -/
theorem RowB.made {w' : World} {g n M : Nat} (hM : n + 1 = M) (h : w'.ownsRow 0 4 1 (.slice (some ⟨g, 0, none⟩) M M) M (madeCells #[Value.bool false] M).toList) : RowB w' g n (fun _ => false) := by
  refine ⟨fun k hk => ?_, fun k => World.ownsRow.frozenAt h k⟩
  rw [World.ownsRow.cellAt h k (by omega), toList_madeCells_one, List.getElem?_replicate, if_pos (by omega)]
theorem below_made {B : Nat} {a w w' : World} (h : Below B a w) (hg : w.grownBy w' none) (hB : B ≤ w.heap.size) : Below B a w' :=
  h.grown hg hB (fun j hj => by cases hj)
theorem grown_below {w w' : World} (hg : w.grownBy w' none) : Below w.heap.size w w' := below_made (Below.refl _ _) hg (Nat.le_refl _)
end Go.Proofs.YtkoaeldlflncpaaDoor
