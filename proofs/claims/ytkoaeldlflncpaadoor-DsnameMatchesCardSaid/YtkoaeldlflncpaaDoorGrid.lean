/-
  Matching a list of parts against a list of elements, and the table in memory that 'table' fills.
-/
import Derived.Test.YtkoaeldlflncpaaDoorNames
namespace Go.Proofs.YtkoaeldlflncpaaDoor
open Go.RowKit

/-- Whether one of the ends of a list does. -/
def anyTail {β : Type} (f : List β → Bool) : List β → Bool
  | [] => f []
  | b :: t => f (b :: t) || anyTail f t
/-- Whether the parts match the whole of the elements: 'star' parts stand for any number of them. -/
def matchL {α β : Type} (star : α → Bool) (one : α → β → Bool) : List α → List β → Bool
  | [] => fun qs => qs.isEmpty
  | a :: r => fun qs => if star a then anyTail (matchL star one r) qs else
    match qs with
    | [] => false
    | b :: t => matchL star one r t && one a b
section
variable {α β : Type} (star : α → Bool) (one : α → β → Bool)
theorem matchL_nil : matchL star one [] ([] : List β) = true := rfl
theorem matchL_nil_cons (b : β) (t : List β) : matchL star one [] (b :: t) = false := rfl
theorem matchL_cons_nil (a : α) (r : List α) : matchL star one (a :: r) [] = (star a && matchL star one r []) := by
  rw [matchL]; cases star a <;> rfl
theorem matchL_cons (a : α) (r : List α) (b : β) (t : List β) : matchL star one (a :: r) (b :: t) = if star a then matchL star one r (b :: t) || matchL star one (a :: r) t else matchL star one r t && one a b := by
  rw [matchL]; cases h : star a <;> simp [anyTail]
end
section
variable {α β : Type} (star : α → Bool) (one : α → β → Bool) (ps : List α) (qs : List β)
/-- Whether the parts from i on match the elements from k on. -/
def fit (i k : Nat) : Bool := matchL star one (ps.drop i) (qs.drop k)
theorem fit_end {k : Nat} (hk : k ≤ qs.length) : fit star one ps qs ps.length k = decide (k = qs.length) := by
  unfold fit
  rw [List.drop_length]
  by_cases h : k = qs.length
  · subst h; rw [List.drop_length, matchL_nil]; simp
  · rw [List.drop_eq_getElem_cons (by omega), matchL_nil_cons]; simp [h]
theorem fit_star {i k : Nat} {a : α} (h : ps[i]? = some a) (hs : star a = true) (hk : k ≤ qs.length) : fit star one ps qs i k = (fit star one ps qs (i + 1) k || decide (k < qs.length) && fit star one ps qs i (k + 1)) := by
  obtain ⟨hi, rfl⟩ := List.getElem?_eq_some_iff.1 h
  unfold fit
  rw [List.drop_eq_getElem_cons hi]
  by_cases hlt : k < qs.length
  · rw [List.drop_eq_getElem_cons hlt, matchL_cons, if_pos hs]; simp [hlt]
  · have : k = qs.length := by omega
    subst this
    rw [List.drop_length, matchL_cons_nil, hs]; simp
theorem fit_one {i k : Nat} {a : α} (h : ps[i]? = some a) (hs : star a = false) {b : β} (hb : qs[k]? = some b) : fit star one ps qs i k = (fit star one ps qs (i + 1) (k + 1) && one a b) := by
  obtain ⟨hi, rfl⟩ := List.getElem?_eq_some_iff.1 h
  obtain ⟨hk, rfl⟩ := List.getElem?_eq_some_iff.1 hb
  unfold fit
  rw [List.drop_eq_getElem_cons hi, List.drop_eq_getElem_cons hk, matchL_cons, hs]; simp
theorem fit_none {i : Nat} {a : α} (h : ps[i]? = some a) (hs : star a = false) : fit star one ps qs i qs.length = false := by
  obtain ⟨hi, rfl⟩ := List.getElem?_eq_some_iff.1 h
  unfold fit
  rw [List.drop_eq_getElem_cons hi, List.drop_length, matchL_cons_nil, hs]; simp
end

/-- The cells of the table: 40 rows of 40. -/
structure Grid (w : World) (B : Nat) (F : Nat → Nat → Bool) : Prop where
  c : ∀ i k, i < 40 → k < 40 → w.cell? ⟨B, i * 40 + k, none⟩ = some (.bool (F i k))
  f : ∀ i k, i < 40 → k < 40 → w.frozen? ⟨B, i * 40 + k, none⟩ = false
theorem Grid.lt {w : World} {B : Nat} {F : Nat → Nat → Bool} (h : Grid w B F) : B < w.heap.size := World.block_lt_of_cell? _ _ (h.c 0 0 (by omega) (by omega))
theorem Grid.below {w w' : World} {B : Nat} {F : Nat → Nat → Bool} (h : Grid w B F) (hb : Below w.heap.size w w') : Grid w' B F :=
  ⟨fun i k hi hk => by rw [hb.cell h.lt]; exact h.c i k hi hk, fun i k hi hk => by rw [hb.frozen h.lt]; exact h.f i k hi hk⟩
theorem Grid.drew {w : World} {B : Nat} {F : Nat → Nat → Bool} (h : Grid w B F) : Grid w.drew B F := ⟨h.c, h.f⟩
theorem Grid.put {w : World} {B : Nat} {F : Nat → Nat → Bool} (h : Grid w B F) {i0 k0 : Nat} (hi0 : i0 < 40) (hk0 : k0 < 40) (b : Bool) : Grid (w.setCell ⟨B, i0 * 40 + k0, none⟩ (.bool b)) B (fun i k => if i = i0 ∧ k = k0 then b else F i k) := by
  refine ⟨fun i k hi hk => ?_, fun i k hi hk => ?_⟩
  · by_cases e : i = i0 ∧ k = k0
    · obtain ⟨rfl, rfl⟩ := e
      rw [if_pos ⟨rfl, rfl⟩]
      exact World.cell?_setCell_same _ _ _ (h.c i k hi hk)
    · rw [if_neg e, World.cell?_setCell_other _ _ _ _ (by intro h; have := congrArg Addr.off h; simp only at this; exact e (by omega))]
      exact h.c i k hi hk
  · rw [World.frozen?_setCell]; exact h.f i k hi hk
theorem zero_is : Tryd.zeroCells73 = (List.replicate 1600 (Value.bool false)).toArray := by kernel_rfl
theorem zero_at (j : Nat) (hj : j < 1600) : Tryd.zeroCells73[j]? = some (.bool false) := by
  rw [zero_is, List.getElem?_toArray, List.getElem?_replicate, if_pos hj]
theorem Grid.new (w : World) : Grid (w.alloc (.cells Tryd.zeroCells73 73)) w.heap.size (fun _ _ => false) := by
  refine ⟨fun i k hi hk => ?_, fun i k hi hk => ?_⟩
  · exact (cell_of_row _ _ (i * 40 + k) _ _ _ (heap_alloc_new w _)).trans (zero_at (i * 40 + k) (by omega))
  · have : (w.alloc (.cells Tryd.zeroCells73 73)).heap[w.heap.size]? = some (.cells Tryd.zeroCells73 73 (0, 0)) := heap_alloc_new w _
    simp only [World.frozen?, this]
    rfl
/-- The table's rows from i on are done; of the row ahead of it, the places from k on. -/
def RowsDone {α β : Type} (star : α → Bool) (one : α → β → Bool) (ps : List α) (qs : List β) (F : Nat → Nat → Bool) (i : Nat) : Prop :=
  ∀ a b, i ≤ a → a ≤ ps.length → b ≤ qs.length → F a b = fit star one ps qs a b
def RowDone {α β : Type} (star : α → Bool) (one : α → β → Bool) (ps : List α) (qs : List β) (F : Nat → Nat → Bool) (i k : Nat) : Prop :=
  ∀ b, k ≤ b → b ≤ qs.length → F i b = fit star one ps qs i b
section
variable {α β : Type} {star : α → Bool} {one : α → β → Bool} {ps : List α} {qs : List β} {F : Nat → Nat → Bool}
theorem rows_start : RowsDone star one ps qs (fun i k => if i = ps.length ∧ k = qs.length then true else false) ps.length := fun a b h1 h2 h3 => by
  obtain rfl : a = ps.length := by omega
  rw [fit_end _ _ _ _ h3]
  by_cases e : b = qs.length <;> simp [e]
theorem row_step {i k : Nat} {v : Bool} (h : RowsDone star one ps qs F (i + 1)) (hr : RowDone star one ps qs F i (k + 1)) (hv : v = fit star one ps qs i k) :
    RowsDone star one ps qs (fun a b => if a = i ∧ b = k then v else F a b) (i + 1) ∧ RowDone star one ps qs (fun a b => if a = i ∧ b = k then v else F a b) i k := by
  refine ⟨fun a b h1 h2 h3 => ?_, fun b h1 h2 => ?_⟩
  · have e : ¬ (a = i ∧ b = k) := fun e => by omega
    simp only [if_neg e]
    exact h a b h1 h2 h3
  · by_cases e : b = k
    · subst e; simp [hv]
    · have e' : ¬ (i = i ∧ b = k) := fun h => e h.2
      show (if i = i ∧ b = k then v else F i b) = _
      rw [if_neg e']
      exact hr b (by omega) h2
theorem row_end {i : Nat} (h : RowsDone star one ps qs F (i + 1)) (hr : RowDone star one ps qs F i 0) : RowsDone star one ps qs F i := fun a b h1 h2 h3 => by
  by_cases e : a = i
  · subst e; exact hr b (by omega) h3
  · exact h a b (by omega) h2 h3
end
end Go.Proofs.YtkoaeldlflncpaaDoor
