/-
  The plain law behind DsnameGenerations: the names of the generations of a group are names but no group names, lead back to group and number, match the pattern of the group's generations, and are ordered as their numbers.
-/
import Derived.Test.YtkoaeldlflncpaaDoorStarred
import Derived.Test.YtkoaeldlflncpaaDoorJoint
namespace Go.Proofs.YtkoaeldlflncpaaDoor

/-- The last qualifier of a generation's name. -/
def gq (n : Nat) : List UInt8 := 71 :: (digs n 4 ++ [86, 48, 48])
theorem digit_toNat (n : Nat) : (UInt8.ofNat (48 + n % 10)).toNat = 48 + n % 10 := by
  rw [UInt8.toNat_ofNat']; omega
theorem gq_is (n : Nat) : gq n = [71, UInt8.ofNat (48 + n / 10 ^ 3 % 10), UInt8.ofNat (48 + n / 10 ^ 2 % 10), UInt8.ofNat (48 + n / 10 ^ 1 % 10), UInt8.ofNat (48 + n / 10 ^ 0 % 10), 86, 48, 48] := rfl
theorem genText_is (g : ByteArray) (n : Nat) : bs (genText g n) = bs g ++ 46 :: gq n := by
  rw [genText, bs_ofL, gq]; simp
theorem dg_pl (m : Nat) : plB ((UInt8.ofNat (48 + m % 10)).toNat : Int) = true := by
  rw [digit_toNat]; unfold plB upB dgB; simp; omega
theorem dg_dg (m : Nat) : dgB ((UInt8.ofNat (48 + m % 10)).toNat : Int) = true := by
  rw [digit_toNat]; unfold dgB; simp; omega
theorem gq_vq (n : Nat) : vqL (gq n) = true := by
  rw [gq_is]
  unfold vqL qualL
  simp only [List.all_cons, List.all_nil, dg_pl]
  rfl
theorem gq_num (n : Nat) (hn : n ≤ 9999) : numL (gq n) = n := by
  have hf : genFormL (gq n) = true := by
    rw [gq_is]
    unfold genFormL
    simp only [gd, List.getD_cons_zero, List.getD_cons_succ, dg_dg]
    rfl
  rw [numL, hf, if_pos rfl, gq_is]
  simp only [gd, List.getD_cons_zero, List.getD_cons_succ, digit_toNat]
  omega
theorem gq_valid (n : Nat) : validL (gq n) = true := by
  refine all_mk (by rw [gq_is]; simp) (by rw [gq_is]; simp) fun x hx => ?_
  rw [partsL_none (pq_nodot (vq_pq (gq_vq n))), List.mem_singleton] at hx
  subst hx
  exact gq_vq n
theorem gq_nodot (n : Nat) : 46 ∉ gq n := pq_nodot (vq_pq (gq_vq n))
theorem group_of {g : List UInt8} (h : groupL g = true) : g.length ≤ 22 ∧ validL g = true := by
  unfold groupL at h; simp at h; exact ⟨h.1.1, h.1.2⟩
theorem gen_valid {g : List UInt8} (h : groupL g = true) (n : Nat) : validL (g ++ 46 :: gq n) = true := by
  obtain ⟨h1, h2⟩ := group_of h
  rw [joint_valid h2 (gq_valid n), gq_is, decide_eq_true_eq]
  simp only [List.length_cons, List.length_nil]
  omega
theorem gen_parts (g : List UInt8) (n : Nat) : partsL (g ++ 46 :: gq n) = partsL g ++ [gq n] := by
  rw [partsL_append, partsL_none (gq_nodot n)]
theorem gen_nogroup (g : List UInt8) (n : Nat) (h1 : 1 ≤ n) (hn : n ≤ 9999) : groupL (g ++ 46 :: gq n) = false := by
  unfold groupL
  rw [gen_parts, List.any_append, List.any_cons]
  have : genQL (gq n) = true := by
    unfold genQL
    rw [gq_num n hn, decide_eq_true_eq]
    omega
  rw [this]
  simp
theorem gen_match {g : List UInt8} (h : groupL g = true) (n : Nat) : matchP (g ++ [46, 71, 42, 86, 48, 48]) (g ++ 46 :: gq n) = true := by
  obtain ⟨h1, h2⟩ := group_of h
  obtain ⟨_, _, h3⟩ := all_of h2
  have hpp : partsL (g ++ [46, 71, 42, 86, 48, 48]) = partsL g ++ [[71, 42, 86, 48, 48]] := partsL_append g [71, 42, 86, 48, 48]
  have hpat : patL (g ++ [46, 71, 42, 86, 48, 48]) = true := by
    refine all_mk (by simp) (by simp; omega) fun x hx => ?_
    rw [hpp] at hx
    rcases List.mem_append.1 hx with hx | hx
    · exact vq_pq (h3 x hx)
    · rw [List.mem_singleton] at hx; subst hx; decide
  rw [matchP_iff hpat (gen_valid h n), hpp, gen_parts]
  refine fits_app (fits_self h3) (.one (by decide) ((partL_iff _ _).2 ?_) .nil)
  rw [gq_is]
  exact .one (by decide) (by decide) (.eat (by decide) (.eat (by decide) (.eat (by decide) (.eat (by decide) (.skip (by decide) (.one (by decide) (by decide) (.one (by decide) (by decide) (.one (by decide) (by decide) .nil))))))))

/-! The last full stop. -/
theorem last_unique {u v u' v' : List UInt8} (hv : 46 ∉ v) (hv' : 46 ∉ v') (h : u ++ 46 :: v = u' ++ 46 :: v') : u = u' ∧ v = v' := by
  have e := congrArg partsL h
  rw [partsL_append, partsL_append, partsL_none hv, partsL_none hv'] at e
  obtain ⟨e1, e2⟩ := List.append_inj' e rfl
  refine ⟨?_, by simpa using e2⟩
  rw [← join_parts u, e1, join_parts]
theorem data_get (s : ByteArray) (j : Nat) (h : j < s.size) : (bs s)[j]? = some s.data[j]! := by
  have h' : j < s.data.size := h
  rw [getElem!_pos s.data j h', show bs s = s.data.toList from rfl, Array.getElem?_toList, Array.getElem?_eq_getElem h']
/-- What Split answers, over lists. -/
theorem split_last {s : ByteArray} {u v : List UInt8} (h : bs s = u ++ 46 :: v) (hv : 46 ∉ v) : splitV s = if groupL u = true ∧ numL v ≠ 0 then (ofL u, numL v, true) else (⟨#[]⟩, 0, false) := by
  have hlen : s.size = u.length + 1 + v.length := by rw [← bs_length, h]; simp; omega
  have dotU : ∀ c : UInt8, ((c.toNat : Int) = 46) → c = 46 := fun c hc => UInt8.toNat_inj.1 (by have : (46 : UInt8).toNat = 46 := rfl; omega)
  rcases Lib.lastIndexByte_spec s 46 with ⟨_, hno⟩ | ⟨i, hlt, hi, hc, hno⟩
  · have h1 := data_get s u.length (by omega)
    rw [h, List.getElem?_append_right (Nat.le_refl _), Nat.sub_self] at h1
    have := hno u.length (by omega)
    rw [← Option.some.inj h1] at this
    exact absurd rfl this
  · have hd := data_get s i hlt
    rw [dotU _ hc] at hd
    have hsplit : bs s = (bs s).take i ++ 46 :: (bs s).drop (i + 1) := by
      obtain ⟨hi', he⟩ := List.getElem?_eq_some_iff.1 hd
      rw [← he, List.getElem_cons_drop, List.take_append_drop]
    have hv' : 46 ∉ (bs s).drop (i + 1) := fun hm => by
      obtain ⟨k, hk⟩ := List.mem_iff_getElem?.1 hm
      rw [List.getElem?_drop] at hk
      have hlt2 : i + 1 + k < s.size := (List.getElem?_eq_some_iff.1 hk).1
      have h2 := data_get s (i + 1 + k) hlt2
      rw [hk] at h2
      have := hno (i + 1 + k) (by omega) hlt2
      rw [← Option.some.inj h2] at this
      exact this rfl
    obtain ⟨e1, e2⟩ := last_unique hv hv' (h.symm.trans hsplit)
    have hh : bs (headB s i) = u := by
      rw [e1]; simp [headB, bs, ByteArray.data_extract]
    have ht : bs (tailB s i) = v := by
      rw [e2]
      have : (bs s).drop (i + 1) = ((bs s).drop (i + 1)).take (s.size - (i + 1)) := by
        rw [List.take_of_length_le]; rw [List.length_drop, bs_length]; exact Nat.le_refl _
      rw [this]
      simp [tailB, bs, ByteArray.data_extract, List.take_drop]
    unfold splitV
    rw [hi, if_pos (by omega), show ((i : Int)).toNat = i from rfl, group_bs, num_bs, hh, ht]
    rw [show headB s i = ofL u by rw [← hh, ofL_bs]]
theorem split_nodot {s : ByteArray} (h : 46 ∉ bs s) : splitV s = (⟨#[]⟩, 0, false) := by
  rcases Lib.lastIndexByte_spec s 46 with ⟨hi, _⟩ | ⟨i, hlt, hi, hc, _⟩
  · unfold splitV; rw [hi]; rfl
  · have hd := data_get s i hlt
    have : s.data[i]! = 46 := UInt8.toNat_inj.1 (by have : (46 : UInt8).toNat = 46 := rfl; omega)
    rw [this] at hd
    exact absurd (List.mem_of_getElem? hd) h

/-! The order of the numbers. -/
theorem digs_lt {n m : Nat} : ∀ k, n % 10 ^ k < m % 10 ^ k → ∀ x y, Lib.compareBytes (digs n k ++ x) (digs m k ++ y) = -1 := by
  intro k
  induction k with
  | zero => intro h; simp [Nat.mod_one] at h
  | succ k ih =>
    intro h x y
    rw [digs, digs, List.cons_append, List.cons_append, Lib.compareBytes]
    have e1 := Nat.mod_mul_right_div_self n (10 ^ k) 10
    have e2 := Nat.mod_mul_right_div_self m (10 ^ k) 10
    have hk : 0 < 10 ^ k := Nat.pow_pos (by decide)
    rw [Nat.pow_succ] at h
    have d1 := Nat.div_add_mod (n % (10 ^ k * 10)) (10 ^ k)
    have d2 := Nat.div_add_mod (m % (10 ^ k * 10)) (10 ^ k)
    rw [e1, Nat.mod_mul_right_mod] at d1
    rw [e2, Nat.mod_mul_right_mod] at d2
    have l1 := Nat.mod_lt n hk
    have l2 := Nat.mod_lt m hk
    have t1 := digit_toNat (n / 10 ^ k)
    have t2 := digit_toNat (m / 10 ^ k)
    by_cases hlt : n / 10 ^ k % 10 < m / 10 ^ k % 10
    · rw [if_pos (UInt8.lt_iff_toNat_lt.2 (by omega))]
    · have heq : n / 10 ^ k % 10 = m / 10 ^ k % 10 := by
        by_cases hgt : m / 10 ^ k % 10 < n / 10 ^ k % 10
        · have : 10 ^ k * (m / 10 ^ k % 10) + 10 ^ k ≤ 10 ^ k * (n / 10 ^ k % 10) := by
            rw [← Nat.mul_succ]; exact Nat.mul_le_mul_left _ hgt
          omega
        · omega
      rw [heq, if_neg (UInt8.lt_irrefl _), if_neg (UInt8.lt_irrefl _)]
      rw [heq] at d1
      exact ih (by omega) x y
theorem gen_lt {n m : Nat} (g : List UInt8) (hn : n ≤ 9999) (hm : m ≤ 9999) (h : n < m) : Lib.compareBytes (g ++ 46 :: gq n) (g ++ 46 :: gq m) = -1 := by
  rw [cmp_app]
  exact (cmp_app [46, 71] _ _).trans (digs_lt 4 (by rw [Nat.mod_eq_of_lt (by omega), Nat.mod_eq_of_lt (by omega)]; exact h) _ _)

/-! Over texts. -/
theorem gen_split {g : ByteArray} (h : groupB g = true) (n : Nat) (h1 : 1 ≤ n) (hn : n ≤ 9999) : splitV (genText g n) = (g, (n : Int), true) := by
  rw [split_last (genText_is g n) (gq_nodot n), gq_num n hn, if_pos ⟨by rw [← group_bs]; exact h, by omega⟩, ofL_bs]
theorem gen_validB {g : ByteArray} (h : groupB g = true) (n : Nat) : validB (genText g n) = true := by
  rw [valid_bs, genText_is]; exact gen_valid (by rw [← group_bs]; exact h) n
theorem gen_nogroupB (g : ByteArray) (n : Nat) (h1 : 1 ≤ n) (hn : n ≤ 9999) : groupB (genText g n) = false := by
  rw [group_bs, genText_is]; exact gen_nogroup _ n h1 hn
/-- The pattern of a group's generations. -/
def gpat (g : ByteArray) : ByteArray := g ++ ⟨#[46, 71, 42, 86, 48, 48]⟩
theorem gen_matchB {g : ByteArray} (h : groupB g = true) (n : Nat) : matchB (gpat g) (genText g n) = true := by
  rw [match_bs, genText_is, gpat, bs_app]; exact gen_match (by rw [← group_bs]; exact h) n
/-- The model's order of texts is that of their bytes. -/
theorem less_cmp : ∀ x y : List UInt8, Op.bytesLess x y = decide (Lib.compareBytes x y = -1)
  | [], [] => by simp [Op.bytesLess, Lib.compareBytes]
  | _ :: _, [] => by simp [Op.bytesLess, Lib.compareBytes]
  | [], _ :: _ => by simp [Op.bytesLess, Lib.compareBytes]
  | a :: x, b :: y => by
    rw [Op.bytesLess, less_cmp x y, Lib.compareBytes]
    by_cases h1 : a < b
    · simp [h1]
    · by_cases h2 : b < a
      · have h3 : a ≠ b := fun e => by subst e; exact UInt8.lt_irrefl _ h2
        simp [h1, h2, h3]
      · have h3 : a = b := UInt8.le_antisymm (UInt8.not_lt.1 h2) (UInt8.not_lt.1 h1)
        subst h3
        simp
theorem gen_less (g : ByteArray) {n m : Nat} (hn : n ≤ 9999) (hm : m ≤ 9999) : Op.bytesLess (genText g n).toList (genText g m).toList = decide (n < m) := by
  rw [toList_bs, toList_bs, less_cmp, genText_is, genText_is]
  rcases Nat.lt_trichotomy n m with h | h | h
  · simp [gen_lt (bs g) hn hm h, h]
  · subst h; simp [cmp_self]
  · rw [cmp_flip, gen_lt (bs g) hm hn h]
    simp; omega
theorem gen_eq (g : ByteArray) {n m : Nat} (hn : n ≤ 9999) (hm : m ≤ 9999) : ((genText g n).toList == (genText g m).toList) = decide (n = m) := by
  rw [toList_bs, toList_bs, genText_is, genText_is]
  rcases Nat.lt_trichotomy n m with h | h | h
  · have h1 : n ≠ m := by omega
    have := gen_lt (bs g) hn hm h
    simp only [h1, decide_false, beq_eq_false_iff_ne]
    intro e; rw [e, cmp_self] at this; cases this
  · subst h; simp
  · have h1 : n ≠ m := by omega
    have := gen_lt (bs g) hm hn h
    simp only [h1, decide_false, beq_eq_false_iff_ne]
    intro e; rw [e, cmp_self] at this; cases this
theorem genText_size (g : ByteArray) (n : Nat) : (genText g n).size = g.size + 9 := by
  rw [← bs_length, genText_is, gq_is]; simp
end Go.Proofs.YtkoaeldlflncpaaDoor
