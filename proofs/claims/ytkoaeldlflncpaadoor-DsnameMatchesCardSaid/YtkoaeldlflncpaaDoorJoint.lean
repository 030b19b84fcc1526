/-
  The plain law behind DsnameParts: names joined by a full stop are a name if it is not too long; an empty qualifier or a lower-case letter makes no name.
-/
import Derived.Test.YtkoaeldlflncpaaDoorBelow
namespace Go.Proofs.YtkoaeldlflncpaaDoor

theorem joint_valid {a b : List UInt8} (ha : validL a = true) (hb : validL b = true) : validL (a ++ 46 :: b) = decide (a.length + 1 + b.length ≤ 31) := by
  obtain ⟨a1, a2, a3⟩ := all_of ha
  obtain ⟨b1, b2, b3⟩ := all_of hb
  rw [Bool.eq_iff_iff, decide_eq_true_eq]
  constructor
  · intro h
    obtain ⟨_, h2, _⟩ := all_of h
    simp only [List.length_append, List.length_cons] at h2
    omega
  · intro h
    refine all_mk (by simp only [List.length_append, List.length_cons]; omega) (by simp only [List.length_append, List.length_cons]; omega) fun x hx => ?_
    rw [partsL_append] at hx
    rcases List.mem_append.1 hx with hx | hx
    · exact a3 x hx
    · exact b3 x hx
theorem valid_of_all {l : List UInt8} (h : ∀ x ∈ partsL l, vqL x = true) : 1 ≤ l.length := by
  cases l with
  | nil => have := h [] (by simp [partsL]); cases this
  | cons c r => simp
theorem joint_back {a b : List UInt8} (h : validL (a ++ 46 :: b) = true) : validL a = true ∧ validL b = true := by
  obtain ⟨_, h2, h3⟩ := all_of h
  rw [partsL_append] at h3
  simp only [List.length_append, List.length_cons] at h2
  have ha : ∀ x ∈ partsL a, vqL x = true := fun x hx => h3 x (List.mem_append_left _ hx)
  have hb : ∀ x ∈ partsL b, vqL x = true := fun x hx => h3 x (List.mem_append_right _ hx)
  exact ⟨all_mk (valid_of_all ha) (by omega) ha, all_mk (valid_of_all hb) (by omega) hb⟩
theorem nil_valid : validL [] = false := rfl
theorem hole_valid (a b : List UInt8) : validL (a ++ 46 :: 46 :: b) = false := by
  cases h : validL (a ++ 46 :: 46 :: b) with
  | false => rfl
  | true =>
    obtain ⟨_, _, h3⟩ := all_of h
    rw [partsL_append, partsL_dot] at h3
    have := h3 [] (List.mem_append_right _ (by simp))
    cases this
theorem end_valid (a : List UInt8) : validL (a ++ [46]) = false := by
  cases h : validL (a ++ [46]) with
  | false => rfl
  | true => exact absurd (joint_back h).2 (by decide)
theorem front_valid (a : List UInt8) : validL (46 :: a) = false := by
  cases h : validL (46 :: a) with
  | false => rfl
  | true => exact absurd (joint_back (a := []) h).1 (by decide)
/-- A name begins with a letter. -/
theorem valid_first {l : List UInt8} (h : validL l = true) : ∃ c r, l = c :: r ∧ upB c.toNat = true := by
  obtain ⟨h1, _, h3⟩ := all_of h
  cases l with
  | nil => exact absurd h1 (by simp)
  | cons c r =>
    refine ⟨c, r, rfl, ?_⟩
    by_cases hc : c = 46
    · subst hc
      rw [partsL_dot] at h3
      have := h3 [] (by simp)
      cases this
    · obtain ⟨x, xs, _, hp⟩ := partsL_other (r := r) hc
      rw [hp] at h3
      have := h3 (c :: x) (by simp)
      unfold vqL qualL at this
      simp only [Bool.and_eq_true] at this
      exact this.1.2
theorem lower_valid {l : List UInt8} (h : validL l = true) : validL (Lib.toLowerA l) = false := by
  obtain ⟨c, r, rfl, hc⟩ := valid_first h
  cases hv : validL (Lib.toLowerA (c :: r)) with
  | false => rfl
  | true =>
    obtain ⟨c', r', he, hc'⟩ := valid_first hv
    rw [Lib.toLowerA, List.map_cons, List.cons.injEq] at he
    obtain ⟨rfl, _⟩ := he
    unfold upB at hc hc'
    simp only [Bool.and_eq_true, decide_eq_true_eq] at hc hc'
    have h1 : Lib.isUpperB c = true := by
      unfold Lib.isUpperB
      simp only [Bool.and_eq_true, decide_eq_true_eq, UInt8.le_iff_toNat_le]
      exact ⟨by simp; omega, by simp; omega⟩
    rw [Lib.lowerB, if_pos h1, UInt8.toNat_add] at hc'
    simp at hc'
    omega
/-- All bytes of a name are ASCII. -/
theorem valid_ascii {l : List UInt8} (h : validL l = true) : ∀ c ∈ l, c.toNat < 128 := by
  obtain ⟨_, _, h3⟩ := all_of h
  clear h
  have hq : ∀ x, vqL x = true → ∀ c ∈ x, c.toNat < 128 := fun x hx => by
    cases x with
    | nil => intro c hc; simp at hc
    | cons y r =>
      unfold vqL qualL at hx
      simp only [Bool.and_eq_true, List.all_eq_true] at hx
      obtain ⟨⟨_, h1⟩, h2⟩ := hx
      have up : ∀ c : UInt8, plB c.toNat = true → c.toNat < 128 := fun c hc => by
        unfold plB upB dgB at hc; simp at hc; omega
      intro c hc
      rcases List.mem_cons.1 hc with rfl | hc
      · exact up _ (by unfold plB; rw [h1]; rfl)
      · exact up _ (h2 c hc)
  induction l with
  | nil => intro c hc; simp at hc
  | cons y r ih =>
    by_cases hy : y = 46
    · subst hy
      rw [partsL_dot] at h3
      have := h3 [] (by simp)
      cases this
    · obtain ⟨x, xs, hp, hp'⟩ := partsL_other (r := r) hy
      rw [hp'] at h3
      have hyx := hq (y :: x) (h3 (y :: x) (by simp))
      intro c hc
      rcases List.mem_cons.1 hc with rfl | hc
      · exact hyx _ (by simp)
      · rw [← join_parts r, hp] at hc
        have hall : ∀ z ∈ x :: xs, ∀ d ∈ z, d.toNat < 128 := fun z hz d hd => by
          rcases List.mem_cons.1 hz with rfl | hz
          · exact hyx d (by simp [hd])
          · exact hq z (h3 z (by simp [hz])) d hd
        have hj : ∀ zs : List (List UInt8), (∀ z ∈ zs, ∀ d ∈ z, d.toNat < 128) → ∀ d ∈ joinL zs, d.toNat < 128 := fun zs => by
          induction zs with
          | nil => intro _ d hd; simp [joinL] at hd
          | cons z zs ihz =>
            intro hz d hd
            cases zs with
            | nil => exact hz z (by simp) d hd
            | cons z' zs =>
              rw [joinL_cons _ (by simp)] at hd
              rcases List.mem_append.1 hd with hd | hd
              · exact hz z (by simp) d hd
              · rcases List.mem_cons.1 hd with rfl | hd
                · decide
                · exact ihz (fun z hzz => hz z (by simp [hzz])) d hd
        exact hj _ hall c hc
def dots : ByteArray := ⟨#[46]⟩
theorem bs_app (a b : ByteArray) : bs (a ++ b) = bs a ++ bs b := by simp [bs]
theorem jointB {a b : ByteArray} (ha : validB a = true) (hb : validB b = true) : validB (a ++ dots ++ b) = decide (a.size + 1 + b.size ≤ 31) := by
  rw [valid_bs] at ha hb ⊢
  rw [bs_app, bs_app, List.append_assoc]
  exact joint_valid ha hb
theorem jointB_not {a b : ByteArray} (h : ¬ (validB a = true ∧ validB b = true)) : validB (a ++ dots ++ b) = false := by
  cases hv : validB (a ++ dots ++ b) with
  | false => rfl
  | true =>
    rw [valid_bs, bs_app, bs_app, List.append_assoc] at hv
    exact absurd (by rw [valid_bs, valid_bs]; exact joint_back hv) h
theorem holeB (a b : ByteArray) : validB (a ++ dots ++ dots ++ b) = false := by
  rw [valid_bs, bs_app, bs_app, bs_app, List.append_assoc, List.append_assoc]
  exact hole_valid _ _
theorem endB (a : ByteArray) : validB (a ++ dots) = false := by
  rw [valid_bs, bs_app]; exact end_valid _
theorem frontB (a : ByteArray) : validB (dots ++ a) = false := by
  rw [valid_bs, bs_app]; exact front_valid _
theorem lowerV {a : ByteArray} (h : validB a = true) : validB ⟨(Lib.toLowerA (bs a)).toArray⟩ = false := by
  rw [valid_bs] at h ⊢
  exact (congrArg validL (bs_ofL (Lib.toLowerA (bs a)))).trans (lower_valid h)
theorem asciiB {a : ByteArray} (h : validB a = true) : ∀ (j : Nat) (b : UInt8), a.data.toList[j]? = some b → b.toNat < 128 := fun j b hb => by
  rw [valid_bs] at h
  exact valid_ascii h b (List.mem_of_getElem? hb)
end Go.Proofs.YtkoaeldlflncpaaDoor
