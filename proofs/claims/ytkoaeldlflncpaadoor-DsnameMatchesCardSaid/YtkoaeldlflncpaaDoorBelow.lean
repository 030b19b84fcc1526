/-
  The plain law behind DsnameBelow: a pattern with two stars behind it matches a name exactly if the pattern matches its first qualifiers, for some number of them.
-/
import Derived.Test.YtkoaeldlflncpaaDoorFits
namespace Go.Proofs.YtkoaeldlflncpaaDoor

theorem all_of {p : List UInt8 → Bool} {l : List UInt8} (h : allL p l = true) : 1 ≤ l.length ∧ l.length ≤ 31 ∧ ∀ x ∈ partsL l, p x = true := by
  unfold allL at h
  simp only [Bool.and_eq_true, decide_eq_true_eq, List.all_eq_true] at h
  exact ⟨h.1.1, h.1.2, h.2⟩
theorem all_mk {p : List UInt8 → Bool} {l : List UInt8} (h1 : 1 ≤ l.length) (h2 : l.length ≤ 31) (h : ∀ x ∈ partsL l, p x = true) : allL p l = true := by
  unfold allL
  simp only [Bool.and_eq_true, decide_eq_true_eq, List.all_eq_true]
  exact ⟨⟨h1, h2⟩, h⟩
theorem vq_ne {x : List UInt8} (h : vqL x = true) : x ≠ [] := by
  rintro rfl; cases h
theorem joinL_ne {xs : List (List UInt8)} (hne : xs ≠ []) (h : ∀ x ∈ xs, x ≠ []) : joinL xs ≠ [] := by
  cases xs with
  | nil => exact absurd rfl hne
  | cons x r =>
    cases r with
    | nil => exact h x (by simp)
    | cons y r => rw [joinL_cons _ (by simp)]; simp
/-- The first parts of a list, joined. -/
def headL (n : Nat) (l : List UInt8) : List UInt8 := joinL ((partsL l).take n)
theorem head_parts (n : Nat) (l : List UInt8) : partsL (headL (n + 1) l) = (partsL l).take (n + 1) := by
  refine parts_join (fun e => ?_) fun x hx => partsL_nodot l x (List.mem_of_mem_take hx)
  have h := congrArg List.length e
  have hne := partsL_ne l
  rw [List.length_take, List.length_nil] at h
  have : (partsL l).length = 0 := by omega
  exact hne (List.length_eq_zero_iff.1 this)
theorem head_le (n : Nat) (l : List UInt8) : (headL n l).length ≤ l.length := by
  have := joinL_le (partsL l) n
  rw [join_parts] at this
  exact this
theorem head_valid (n : Nat) {l : List UInt8} (h : validL l = true) : validL (headL (n + 1) l) = true := by
  obtain ⟨h1, h2, h3⟩ := all_of h
  have hp := head_parts n l
  have hall : ∀ x ∈ partsL (headL (n + 1) l), vqL x = true := fun x hx => h3 x (List.mem_of_mem_take (by rw [hp] at hx; exact hx))
  refine all_mk ?_ (Nat.le_trans (head_le _ l) h2) hall
  have : headL (n + 1) l ≠ [] := by
    rw [← join_parts (headL (n + 1) l)]
    exact joinL_ne (partsL_ne _) fun x hx => vq_ne (hall x hx)
  cases he : headL (n + 1) l with
  | nil => exact absurd he this
  | cons _ _ => simp
theorem matchP_iff {p s : List UInt8} (hp : patL p = true) (hs : validL s = true) : matchP p s = true ↔ Fits isSSL partL (partsL p) (partsL s) := by
  unfold matchP; rw [hp, hs, Bool.true_and, Bool.true_and]; exact matchL_iff _ _
theorem below_parts (p : List UInt8) : partsL (p ++ [46, 42, 42]) = partsL p ++ [[42, 42]] := partsL_append p [42, 42]
theorem below_pat {p : List UInt8} (hp : patL p = true) (hz : p.length ≤ 28) : patL (p ++ [46, 42, 42]) = true := by
  obtain ⟨h1, h2, h3⟩ := all_of hp
  refine all_mk (by simp) (by simp; omega) fun x hx => ?_
  rw [below_parts] at hx
  rcases List.mem_append.1 hx with hx | hx
  · exact h3 x hx
  · rw [List.mem_singleton] at hx; subst hx; rfl
theorem below_law {p s : List UInt8} (hp : patL p = true) (hz : p.length ≤ 28) (hs : validL s = true) :
    matchP (p ++ [46, 42, 42]) s = (List.range (partsL s).length).any fun n => matchP p (headL (n + 1) s) := by
  rw [Bool.eq_iff_iff, matchP_iff (below_pat hp hz) hs, below_parts, List.any_eq_true]
  have hn : 0 < (partsL s).length := List.length_pos_iff.2 (partsL_ne s)
  constructor
  · intro h
    obtain ⟨x, y, he, hx, hy⟩ := fits_split h
    cases x with
    | nil =>
      refine ⟨0, List.mem_range.2 hn, (matchP_iff hp (head_valid 0 hs)).2 ?_⟩
      exact fits_none hx (partsL_ne p) _
    | cons b t =>
      have hl : t.length + 1 ≤ (partsL s).length := by rw [he]; simp
      refine ⟨t.length, List.mem_range.2 (by omega), (matchP_iff hp (head_valid _ hs)).2 ?_⟩
      rw [head_parts, he]
      have : (b :: t ++ y).take (t.length + 1) = b :: t := by simp
      rw [this]
      exact hx
  · rintro ⟨n, _, h⟩
    have h := (matchP_iff hp (head_valid n hs)).1 h
    rw [head_parts] at h
    have := fits_app h (fits_star (star := isSSL) (one := partL) (a := [42, 42]) rfl ((partsL s).drop (n + 1)))
    rw [List.take_append_drop] at this
    exact this
/-- The first qualifiers of a name, over texts. -/
theorem first_bs (n : Nat) {s : ByteArray} (h : validB s = true) (hn : n ≤ (parts s).length) : bs (firstB n s) = headL n (bs s) := by
  unfold firstB qualsB
  rw [h, if_pos rfl]
  have e : (min (max (n : Int) 0) ((parts s).length : Int)).toNat = n := by omega
  rw [e, joinB, bs_ofL, List.map_take, parts_bs]
  rfl
theorem bs_inj {a b : ByteArray} (h : bs a = bs b) : a = b := by rw [← ofL_bs a, ← ofL_bs b, h]
theorem join_parts_bs (s : ByteArray) : joinB (parts s) = s := by
  unfold joinB; rw [parts_bs, join_parts]
theorem first_all {s : ByteArray} (h : validB s = true) : firstB (parts s).length s = s := by
  apply bs_inj
  rw [first_bs _ h (Nat.le_refl _), headL]
  have : (parts s).length = (partsL (bs s)).length := by rw [← parts_bs, List.length_map]
  rw [this, List.take_length, join_parts]
/-- Whether one of the first n heads of a name matches. -/
def someB (p s : ByteArray) : Nat → Bool
  | 0 => false
  | n + 1 => someB p s n || matchB p (firstB ((n : Int) + 1) s)
theorem someB_any (p : ByteArray) {s : ByteArray} (h : validB s = true) (n : Nat) (hn : n ≤ (parts s).length) : someB p s n = (List.range n).any fun n => matchP (bs p) (headL (n + 1) (bs s)) := by
  induction n with
  | zero => rfl
  | succ n ih =>
    rw [someB, ih (by omega), List.range_succ, List.any_append, List.any_cons, List.any_nil, Bool.or_false, match_bs]
    have : bs (firstB ((n : Int) + 1) s) = headL (n + 1) (bs s) := first_bs (n + 1) h hn
    rw [this]
/-- The text p.** -/
def belowB (p : ByteArray) : ByteArray := p ++ ⟨#[46, 42, 42]⟩
theorem belowB_law {p s : ByteArray} (hp : patB p = true) (hz : p.size ≤ 28) (hs : validB s = true) : matchB (belowB p) s = someB p s (parts s).length := by
  rw [someB_any p hs _ (Nat.le_refl _), match_bs]
  have e : bs (belowB p) = bs p ++ [46, 42, 42] := by simp [belowB, bs]
  rw [e, below_law (by rw [← pat_bs]; exact hp) hz (by rw [← valid_bs]; exact hs)]
  have : (parts s).length = (partsL (bs s)).length := by rw [← parts_bs, List.length_map]
  rw [this]
end Go.Proofs.YtkoaeldlflncpaaDoor
