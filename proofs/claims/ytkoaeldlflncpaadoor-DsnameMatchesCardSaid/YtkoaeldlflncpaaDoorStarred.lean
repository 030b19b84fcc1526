/-
  The plain law behind DsnameStars: names match two stars, a name as a pattern matches itself alone, and a pattern whose qualifier, or a part of it, becomes a star still matches.
-/
import Derived.Test.YtkoaeldlflncpaaDoorSorted
namespace Go.Proofs.YtkoaeldlflncpaaDoor

theorem contains_cons (c : UInt8) (r : List UInt8) : Lib.contains (c :: r) [42, 42] = (([42, 42] : List UInt8).isPrefixOf (c :: r) || Lib.contains r [42, 42]) := by
  unfold Lib.contains
  rw [Lib.index]
  have hge := Lib.index_ge r [42, 42]
  cases hp : ([42, 42] : List UInt8).isPrefixOf (c :: r) with
  | true => simp
  | false =>
    simp only [Bool.false_eq_true, if_false, Bool.false_or]
    by_cases hm : Lib.index r [42, 42] = -1
    · simp [hm]
    · have hb : (Lib.index r [42, 42] == -1) = false := by simpa using hm
      rw [hb]
      simp only [Bool.false_eq_true, if_false]
      rw [Bool.eq_iff_iff, decide_eq_true_eq, decide_eq_true_eq]
      omega
theorem contains_none {x : List UInt8} (h : 42 ∉ x) : Lib.contains x [42, 42] = false := by
  induction x with
  | nil => rfl
  | cons c r ih =>
    rw [contains_cons, ih fun hm => h (by simp [hm])]
    have hc : c ≠ 42 := fun e => h (by simp [e])
    simp [List.isPrefixOf, Ne.symm hc]
theorem vq_nostar {x : List UInt8} (h : vqL x = true) : 42 ∉ x := fun hm => by
  have := pl_bound (vq_bytes h 42 hm)
  exact absurd this.1 (by decide)
theorem vq_pq {x : List UInt8} (h : vqL x = true) : pqL x = true := by
  unfold pqL
  rw [contains_none (vq_nostar h)]
  cases x with
  | nil => cases h
  | cons c r =>
    unfold vqL qualL at h
    simp only [Bool.and_eq_true, List.all_eq_true, decide_eq_true_eq] at h
    obtain ⟨⟨h0, h1⟩, h2⟩ := h
    have e : qualL stB psB (c :: r) = true := by
      unfold qualL
      simp only [Bool.and_eq_true, List.all_eq_true, decide_eq_true_eq]
      exact ⟨⟨h0, by unfold stB; rw [h1]; rfl⟩, fun b hb => by unfold psB; rw [h2 b hb]; rfl⟩
    rw [e]
    simp
theorem valid_pat {l : List UInt8} (h : validL l = true) : patL l = true := by
  obtain ⟨h1, h2, h3⟩ := all_of h
  exact all_mk h1 h2 fun x hx => vq_pq (h3 x hx)
theorem partL_iff (p q : List UInt8) : partL p q = true ↔ Fits star8 (fun a b => a == b) p q := matchL_iff _ _
theorem partL_self {x : List UInt8} (h : 42 ∉ x) : partL x x = true := by
  rw [partL_iff]
  induction x with
  | nil => exact .nil
  | cons c r ih =>
    have hc : star8 c = false := by
      cases hs : star8 c with
      | false => rfl
      | true => exact absurd ((star8_iff c).1 hs) fun e => h (by simp [e])
    exact .one hc (by simp) (ih fun hm => h (by simp [hm]))
theorem partL_only {x y : List UInt8} (h : 42 ∉ x) (hf : partL x y = true) : x = y := by
  rw [partL_iff] at hf
  rcases part_shape hf with e | ⟨u, v, t, e, _⟩
  · exact e
  · exact absurd (by rw [e]; simp) h
theorem fits_self {qs : List (List UInt8)} (h : ∀ x ∈ qs, vqL x = true) : Fits isSSL partL qs qs := by
  induction qs with
  | nil => exact .nil
  | cons q qs ih =>
    have hq := h q (by simp)
    exact .one (vq_noSS hq) (partL_self (vq_nostar hq)) (ih fun x hx => h x (by simp [hx]))
theorem fits_only {ps qs : List (List UInt8)} (h : ∀ x ∈ ps, vqL x = true) (hf : Fits isSSL partL ps qs) : ps = qs := by
  induction hf with
  | nil => rfl
  | @skip a r _ hs _ _ => have := vq_noSS (h a (by simp)); rw [hs] at this; cases this
  | @eat a r _ _ hs _ _ => have := vq_noSS (h a (by simp)); rw [hs] at this; cases this
  | @one a r _ _ hs h1 f ih =>
    rw [partL_only (vq_nostar (h a (by simp))) h1, ih fun x hx => h x (by simp [hx])]
theorem name_self {a b : List UInt8} (ha : validL a = true) (hb : validL b = true) : matchP a b = true ↔ a = b := by
  rw [matchP_iff (valid_pat ha) hb]
  obtain ⟨_, _, h3⟩ := all_of ha
  constructor
  · intro h
    rw [← join_parts a, fits_only h3 h, join_parts]
  · rintro rfl
    exact fits_self h3
theorem two_all {a : List UInt8} (ha : validL a = true) : matchP [42, 42] a = true := by
  rw [matchP_iff (by decide) ha]
  exact fits_star (a := [42, 42]) (by decide) _
/-- What becomes of a list of parts whose place k is set. -/
theorem set_split {α : Type} {l : List α} {k : Nat} {x : α} (h : l[k]? = some x) : ∃ u v, l = u ++ x :: v ∧ ∀ y, l.set k y = u ++ y :: v := by
  obtain ⟨hk, rfl⟩ := List.getElem?_eq_some_iff.1 h
  refine ⟨l.take k, l.drop (k + 1), ?_, fun y => ?_⟩
  · rw [List.getElem_cons_drop, List.take_append_drop]
  · rw [List.set_eq_take_append_cons_drop, if_pos hk]
theorem fits_swap {u v : List (List UInt8)} {x y : List UInt8} {qs : List (List UInt8)} (h : Fits isSSL partL (u ++ x :: v) qs) (hx : isSSL x = false) (hy : isSSL y = false) (hxy : ∀ q, partL x q = true → partL y q = true) : Fits isSSL partL (u ++ y :: v) qs := by
  obtain ⟨a, b, rfl, h1, h2⟩ := fits_split h
  obtain ⟨c, d, rfl, h3, h4⟩ := fits_split (ps := [x]) h2
  obtain ⟨q, rfl, h5⟩ := fits_one_single hx h3
  exact fits_app h1 (fits_app (ps := [y]) (.one hy (hxy q h5) .nil) h4)
theorem star_part (q : List UInt8) : partL [42] q = true := (partL_iff _ _).2 (fits_star (by decide) q)
/-- A part of a qualifier that becomes a star. -/
def starred (x : List UInt8) (i j : Nat) : List UInt8 := x.take i ++ 42 :: x.drop j
theorem starred_fits {x q : List UInt8} {i j : Nat} (hij : i ≤ j) (h : partL x q = true) : partL (starred x i j) q = true := by
  rw [partL_iff] at h ⊢
  have e : x = x.take i ++ ((x.drop i).take (j - i) ++ x.drop j) := by
    have h2 : x.drop j = (x.drop i).drop (j - i) := by rw [List.drop_drop]; congr 1; omega
    rw [h2, List.take_append_drop, List.take_append_drop]
  rw [e] at h
  obtain ⟨a, b, rfl, h1, h2⟩ := fits_split h
  obtain ⟨c, d, rfl, h3, h4⟩ := fits_split h2
  exact fits_app h1 (fits_app (ps := [42]) (fits_star (by decide) c) h4)
theorem joinL_length (u v : List (List UInt8)) (x y : List UInt8) (h : y.length ≤ x.length) : (joinL (u ++ y :: v)).length ≤ (joinL (u ++ x :: v)).length := by
  induction u with
  | nil => rw [List.nil_append, List.nil_append, join_head, join_head, List.length_append, List.length_append]; omega
  | cons z u ih =>
    rw [List.cons_append, List.cons_append, joinL_cons _ (by simp), joinL_cons _ (by simp)]
    simp only [List.length_append, List.length_cons]
    omega
theorem joinL_pos {xs : List (List UInt8)} (hne : xs ≠ []) (h : ∀ x ∈ xs, x ≠ []) : 1 ≤ (joinL xs).length := by
  have := joinL_ne hne h
  cases he : joinL xs with
  | nil => exact absurd he this
  | cons _ _ => simp
theorem pq_ne {x : List UInt8} (h : pqL x = true) : x ≠ [] := by
  rintro rfl; cases h
theorem pq_nodot {x : List UInt8} (h : pqL x = true) : 46 ∉ x := fun hm => by
  have := ps_bound (pq_bytes h 46 hm)
  exact absurd rfl this.2.2
theorem pat_parts {xs : List (List UInt8)} (hne : xs ≠ []) (h : ∀ x ∈ xs, pqL x = true) (hl : (joinL xs).length ≤ 31) : patL (joinL xs) = true ∧ partsL (joinL xs) = xs := by
  have hp := parts_join hne fun x hx => pq_nodot (h x hx)
  exact ⟨all_mk (joinL_pos hne fun x hx => pq_ne (h x hx)) hl (by rw [hp]; exact h), hp⟩
theorem star_law {p s : List UInt8} {k : Nat} {x : List UInt8} (h : matchP p s = true) (hk : (partsL p)[k]? = some x) (hx : isSSL x = false) : matchP (joinL ((partsL p).set k [42])) s = true := by
  have hp : patL p = true := by unfold matchP at h; simp at h; exact h.1.1
  have hs : validL s = true := by unfold matchP at h; simp at h; exact h.1.2
  have hf := (matchP_iff hp hs).1 h
  obtain ⟨_, p2, p3⟩ := all_of hp
  obtain ⟨u, v, e, hset⟩ := set_split hk
  have hxl : 1 ≤ x.length := List.length_pos_iff.2 (pq_ne (p3 x (List.mem_of_getElem? hk)))
  rw [hset]
  have hall : ∀ z ∈ u ++ [42] :: v, pqL z = true := fun z hz => by
    rw [List.mem_append, List.mem_cons] at hz
    rcases hz with hz | rfl | hz
    · exact p3 z (by rw [e]; simp [hz])
    · decide
    · exact p3 z (by rw [e]; simp [hz])
  have hl : (joinL (u ++ [42] :: v)).length ≤ 31 := by
    have h1 := joinL_length u v x [42] (by simp; omega)
    rw [← e, join_parts] at h1
    omega
  obtain ⟨hpat, hpp⟩ := pat_parts (by simp) hall hl
  rw [matchP_iff hpat hs, hpp]
  rw [e] at hf
  exact fits_swap hf hx (by decide) fun q _ => star_part q
theorem starred_law {p s : List UInt8} {k i j : Nat} {x : List UInt8} (h : matchP p s = true) (hk : (partsL p)[k]? = some x) (hx : isSSL x = false) (hij : i ≤ j) (hp' : patL (joinL ((partsL p).set k (starred x i j))) = true) (hy : isSSL (starred x i j) = false) :
    matchP (joinL ((partsL p).set k (starred x i j))) s = true := by
  have hp : patL p = true := by unfold matchP at h; simp at h; exact h.1.1
  have hs : validL s = true := by unfold matchP at h; simp at h; exact h.1.2
  have hf := (matchP_iff hp hs).1 h
  obtain ⟨_, p2, p3⟩ := all_of hp
  obtain ⟨u, v, e, hset⟩ := set_split hk
  rw [hset] at hp' ⊢
  have hnd : ∀ z ∈ u ++ starred x i j :: v, 46 ∉ z := fun z hz => by
    rw [List.mem_append, List.mem_cons] at hz
    rcases hz with hz | rfl | hz
    · exact partsL_nodot p z (by rw [e]; simp [hz])
    · have hxd := partsL_nodot p x (List.mem_of_getElem? hk)
      intro hm
      unfold starred at hm
      rw [List.mem_append, List.mem_cons] at hm
      rcases hm with hm | hm | hm
      · exact hxd (List.mem_of_mem_take hm)
      · exact absurd hm (by decide)
      · exact hxd (List.mem_of_mem_drop hm)
    · exact partsL_nodot p z (by rw [e]; simp [hz])
  have hpp := parts_join (xs := u ++ starred x i j :: v) (by simp) hnd
  rw [matchP_iff hp' hs, hpp]
  rw [e] at hf
  exact fits_swap hf hx hy fun q hq => starred_fits hij hq
end Go.Proofs.YtkoaeldlflncpaaDoor
