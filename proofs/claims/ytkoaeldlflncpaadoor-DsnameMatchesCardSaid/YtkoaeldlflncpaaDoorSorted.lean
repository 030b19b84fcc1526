/-
  The plain law behind DsnameOrders: the order of patterns by their keys is a total order, in which a name stands before every other pattern that it matches.
-/
import Derived.Test.YtkoaeldlflncpaaDoorBelow
namespace Go.Proofs.YtkoaeldlflncpaaDoor

/-! The order of lists of bytes. -/
theorem cmp_range : ∀ a b : List UInt8, -1 ≤ Lib.compareBytes a b ∧ Lib.compareBytes a b ≤ 1
  | [], [] => by simp [Lib.compareBytes]
  | [], _ :: _ => by simp [Lib.compareBytes]
  | _ :: _, [] => by simp [Lib.compareBytes]
  | a :: xs, b :: ys => by
    rw [Lib.compareBytes]
    split
    · simp
    · split
      · simp
      · exact cmp_range xs ys
theorem cmp_flip : ∀ a b : List UInt8, Lib.compareBytes b a = -Lib.compareBytes a b
  | [], [] => rfl
  | [], _ :: _ => rfl
  | _ :: _, [] => rfl
  | a :: xs, b :: ys => by
    rw [Lib.compareBytes, Lib.compareBytes]
    by_cases h1 : a < b
    · have h2 : ¬ b < a := fun h => UInt8.lt_irrefl _ (UInt8.lt_trans h1 h)
      rw [if_pos h1, if_neg h2, if_pos h1]; rfl
    · by_cases h2 : b < a
      · rw [if_pos h2, if_neg h1, if_pos h2]
      · rw [if_neg h2, if_neg h1, if_neg h1, if_neg h2]; exact cmp_flip xs ys
theorem cmp_self : ∀ a : List UInt8, Lib.compareBytes a a = 0
  | [] => rfl
  | a :: xs => by rw [Lib.compareBytes, if_neg (UInt8.lt_irrefl a), if_neg (UInt8.lt_irrefl a)]; exact cmp_self xs
theorem cmp_eq : ∀ a b : List UInt8, Lib.compareBytes a b = 0 → a = b
  | [], [] => fun _ => rfl
  | [], _ :: _ => fun h => by cases h
  | _ :: _, [] => fun h => by cases h
  | a :: xs, b :: ys => fun h => by
    rw [Lib.compareBytes] at h
    by_cases h1 : a < b
    · rw [if_pos h1] at h; cases h
    · rw [if_neg h1] at h
      by_cases h2 : b < a
      · rw [if_pos h2] at h; cases h
      · rw [if_neg h2] at h
        have : a = b := by
          have h1 := UInt8.not_lt.1 h1
          have h2 := UInt8.not_lt.1 h2
          exact UInt8.le_antisymm h2 h1
        rw [this, cmp_eq xs ys h]
theorem cmp_trans : ∀ a b c : List UInt8, Lib.compareBytes a b ≤ 0 → Lib.compareBytes b c ≤ 0 → Lib.compareBytes a c ≤ 0
  | [], _, [] => fun _ _ => by simp [Lib.compareBytes]
  | [], _, _ :: _ => fun _ _ => by simp [Lib.compareBytes]
  | _ :: _, [], _ => fun h _ => by simp [Lib.compareBytes] at h
  | _ :: _, _ :: _, [] => fun _ h => by simp [Lib.compareBytes] at h
  | a :: xs, b :: ys, c :: zs => fun h1 h2 => by
    rw [Lib.compareBytes] at h1 h2 ⊢
    by_cases ab : a < b
    · by_cases bc : b < c
      · rw [if_pos (UInt8.lt_trans ab bc)]; decide
      · rw [if_neg bc] at h2
        by_cases cb : c < b
        · rw [if_pos cb] at h2; exact absurd h2 (by decide)
        · have e : b = c := UInt8.le_antisymm (UInt8.not_lt.1 cb) (UInt8.not_lt.1 bc)
          rw [← e, if_pos ab]; decide
    · rw [if_neg ab] at h1
      by_cases ba : b < a
      · rw [if_pos ba] at h1; exact absurd h1 (by decide)
      · rw [if_neg ba] at h1
        have e : a = b := UInt8.le_antisymm (UInt8.not_lt.1 ba) (UInt8.not_lt.1 ab)
        subst e
        by_cases bc : a < c
        · rw [if_pos bc]; decide
        · rw [if_neg bc] at h2 ⊢
          by_cases cb : c < a
          · rw [if_pos cb] at h2; exact absurd h2 (by decide)
          · rw [if_neg cb] at h2 ⊢
            exact cmp_trans xs ys zs h1 h2
theorem cmp_app (u x y : List UInt8) : Lib.compareBytes (u ++ x) (u ++ y) = Lib.compareBytes x y := by
  induction u with
  | nil => rfl
  | cons c u ih => rw [List.cons_append, List.cons_append, Lib.compareBytes, if_neg (UInt8.lt_irrefl c), if_neg (UInt8.lt_irrefl c), ih]
theorem cmp_lt {x : List UInt8} {d : UInt8} {y : List UInt8} (h : ∀ c ∈ x.head?, c < d) : Lib.compareBytes x (d :: y) = -1 := by
  cases x with
  | nil => rfl
  | cons c x => rw [Lib.compareBytes, if_pos (h c (by simp))]

/-! The keys. -/
/-- A star as the key has it. -/
def sub (c : UInt8) : UInt8 := if c = 42 then 254 else c
theorem index_star (r : List UInt8) : Lib.index (42 :: r) [42] = 0 := by
  rw [Lib.index]; simp [List.isPrefixOf]
theorem replaceK_is : ∀ l : List UInt8, Lib.replaceK [42] [254] (l.count 42) l = l.map sub := by
  intro l
  induction l with
  | nil => rfl
  | cons c r ih =>
    by_cases hc : c = 42
    · subst hc
      rw [List.count_cons_self, List.map_cons, ← ih]
      simp [Lib.replaceK, index_star, sub]
    · rw [List.count_cons_of_ne (by simpa using hc), List.map_cons, sub, if_neg hc, ← ih]
      have hp : ([42] : List UInt8).isPrefixOf (c :: r) = false := by simp [List.isPrefixOf, Ne.symm hc]
      have hix : Lib.index (c :: r) [42] = if Lib.index r [42] == -1 then -1 else Lib.index r [42] + 1 := by rw [Lib.index, hp]; simp
      cases hn : r.count 42 with
      | zero => simp only [Lib.replaceK]
      | succ n =>
        simp only [Lib.replaceK]
        by_cases hm : Lib.index r [42] = -1
        · simp only [hm, beq_self_eq_true, if_true] at hix
          simp only [hix, hm, beq_self_eq_true, if_true]
        · have hge := Lib.index_ge r [42]
          have hb : (Lib.index r [42] == -1) = false := by simpa using hm
          rw [hb] at hix
          simp only [Bool.false_eq_true, if_false] at hix
          have hb2 : (Lib.index (c :: r) [42] == -1) = false := by rw [hix]; simp; omega
          rw [hb2, hb]
          simp only [Bool.false_eq_true, if_false]
          have e : (Lib.index (c :: r) [42]).toNat = (Lib.index r [42]).toNat + 1 := by rw [hix]; omega
          rw [e]
          simp
theorem replace_is (l : List UInt8) : Lib.replaceAll l [42] [254] = l.map sub := by
  rw [Lib.replaceAll, Lib.replace, if_neg (by decide), Lib.replaceNum, if_pos (by simp), Lib.count_one]
  exact replaceK_is l
/-- A part of a pattern's key, its stars turned. -/
def kpL (x : List UInt8) : List UInt8 := (kqL x).map sub
theorem join_map (f : UInt8 → UInt8) (hf : f 46 = 46) (xs : List (List UInt8)) : (joinL xs).map f = joinL (xs.map fun x => x.map f) := by
  induction xs with
  | nil => rfl
  | cons x r ih =>
    cases r with
    | nil => rfl
    | cons y r => rw [joinL_cons x (by simp), List.map_append, List.map_cons, hf, ih, List.map_cons (l := y :: r), joinL_cons (x.map f) (by simp)]
theorem key_is (l : List UInt8) : keyL l = joinL ((partsL l).map kpL) := by
  rw [keyL, replace_is, join_map sub (by decide), List.map_map]; rfl
theorem isSSL_iff (x : List UInt8) : isSSL x = true ↔ x = [42, 42] := by unfold isSSL; exact beq_iff_eq
theorem kpL_ss : kpL [42, 42] = [255] := by decide
theorem kpL_other {x : List UInt8} (h : isSSL x = false) : kpL x = x.map sub := by rw [kpL, kqL, h]; rfl
/-- A byte of a part of a pattern. -/
theorem pq_bytes {x : List UInt8} (h : pqL x = true) : ∀ c ∈ x, psB c.toNat = true := by
  unfold pqL at h
  rw [Bool.or_eq_true] at h
  rcases h with h | h
  · rw [beq_iff_eq] at h; subst h
    intro c hc
    simp at hc; subst hc; decide
  · rw [Bool.and_eq_true] at h
    have h := h.1
    cases x with
    | nil => intro c hc; simp at hc
    | cons y r =>
      unfold qualL at h
      simp only [Bool.and_eq_true, List.all_eq_true] at h
      obtain ⟨⟨_, h1⟩, h2⟩ := h
      intro c hc
      rcases List.mem_cons.1 hc with rfl | hc
      · unfold stB at h1; unfold psB plB
        rw [Bool.or_eq_true] at h1 ⊢
        rcases h1 with h1 | h1
        · left; rw [h1]; rfl
        · right; exact h1
      · exact h2 c hc
theorem ps_bound {c : UInt8} (h : psB c.toNat = true) : 42 ≤ c.toNat ∧ c.toNat ≤ 90 ∧ c.toNat ≠ 46 := by
  unfold psB plB upB dgB at h; simp at h; omega
theorem sub_toNat (c : UInt8) : (sub c).toNat = if c.toNat = 42 then 254 else c.toNat := by
  unfold sub
  by_cases h : c = 42
  · subst h; rfl
  · have : c.toNat ≠ 42 := fun e => h (UInt8.toNat_inj.1 (e.trans rfl))
    rw [if_neg h, if_neg this]
theorem kp_nodot {x : List UInt8} (h : pqL x = true) : 46 ∉ kpL x := by
  cases hs : isSSL x with
  | true => rw [(isSSL_iff x).1 hs, kpL_ss]; decide
  | false =>
    rw [kpL_other hs]
    intro hm
    obtain ⟨c, hc, he⟩ := List.mem_map.1 hm
    have hb := ps_bound (pq_bytes h c hc)
    have := congrArg UInt8.toNat he
    rw [sub_toNat] at this
    split at this
    · exact absurd this (by decide)
    · exact hb.2.2 (this.trans rfl)
theorem kp_inj {x y : List UInt8} (hx : pqL x = true) (hy : pqL y = true) (h : kpL x = kpL y) : x = y := by
  have hss : ∀ {z : List UInt8}, pqL z = true → isSSL z = false → kpL z ≠ [255] := fun {z} hz hs e => by
    rw [kpL_other hs] at e
    have : (255 : UInt8) ∈ z.map sub := by rw [e]; simp
    obtain ⟨c, hc, he⟩ := List.mem_map.1 this
    have hb := ps_bound (pq_bytes hz c hc)
    have := congrArg UInt8.toNat he
    rw [sub_toNat] at this
    split at this
    · exact absurd this (by decide)
    · have e255 : (255 : UInt8).toNat = 255 := rfl
      omega
  cases hs : isSSL x with
  | true =>
    cases hs' : isSSL y with
    | true => rw [(isSSL_iff x).1 hs, (isSSL_iff y).1 hs']
    | false => rw [(isSSL_iff x).1 hs, kpL_ss] at h; exact absurd h.symm (hss hy hs')
  | false =>
    cases hs' : isSSL y with
    | true => rw [(isSSL_iff y).1 hs', kpL_ss] at h; exact absurd h (hss hx hs)
    | false =>
      rw [kpL_other hs, kpL_other hs'] at h
      have hbx := pq_bytes hx
      have hby := pq_bytes hy
      clear hss hs hs' hx hy
      induction x generalizing y with
      | nil => cases y with
        | nil => rfl
        | cons d y => cases h
      | cons c x ih => cases y with
        | nil => cases h
        | cons d y =>
          rw [List.map_cons, List.map_cons, List.cons.injEq] at h
          have hc := ps_bound (hbx c (by simp))
          have hd := ps_bound (hby d (by simp))
          have e : c = d := by
            have := congrArg UInt8.toNat h.1
            rw [sub_toNat, sub_toNat] at this
            apply UInt8.toNat_inj.1
            split at this <;> split at this <;> omega
          rw [e, ih h.2 (fun c hc => hbx c (by simp [hc])) (fun c hc => hby c (by simp [hc]))]
theorem map_inj {α β : Type} {f : α → β} {xs ys : List α} (hf : ∀ x ∈ xs, ∀ y ∈ ys, f x = f y → x = y) (h : xs.map f = ys.map f) : xs = ys := by
  induction xs generalizing ys with
  | nil => cases ys with
    | nil => rfl
    | cons y ys => cases h
  | cons x xs ih => cases ys with
    | nil => cases h
    | cons y ys =>
      rw [List.map_cons, List.map_cons, List.cons.injEq] at h
      rw [hf x (by simp) y (by simp) h.1, ih (fun x hx y hy => hf x (by simp [hx]) y (by simp [hy])) h.2]
theorem key_inj {a b : List UInt8} (ha : patL a = true) (hb : patL b = true) (h : keyL a = keyL b) : a = b := by
  obtain ⟨_, _, ha⟩ := all_of ha
  obtain ⟨_, _, hb⟩ := all_of hb
  have hd : ∀ l, (∀ x ∈ partsL l, pqL x = true) → ∀ z ∈ (partsL l).map kpL, 46 ∉ z := fun l hl z hz => by
    obtain ⟨x, hx, rfl⟩ := List.mem_map.1 hz
    exact kp_nodot (hl x hx)
  have hne : ∀ l, (partsL l).map kpL ≠ [] := fun l e => partsL_ne l (List.map_eq_nil_iff.1 e)
  rw [key_is, key_is] at h
  have h2 : (partsL a).map kpL = (partsL b).map kpL := by
    rw [← parts_join (hne a) (hd a ha), h, parts_join (hne b) (hd b hb)]
  have h3 := map_inj (fun x hx y hy => kp_inj (ha x hx) (hb y hy)) h2
  rw [← join_parts a, h3, join_parts]

/-! A name stands before other patterns that it matches. -/
theorem star8_iff (c : UInt8) : star8 c = true ↔ c = 42 := by unfold star8; exact beq_iff_eq
theorem part_shape {p q : List UInt8} (h : Fits star8 (fun a b => a == b) p q) : p = q ∨ ∃ u v t, p = u ++ 42 :: v ∧ q = u ++ t := by
  cases p with
  | nil => cases h; exact .inl rfl
  | cons c p =>
    induction q generalizing c p with
    | nil =>
      cases h with
      | skip h _ => rw [(star8_iff _).1 h]; exact .inr ⟨[], p, [], rfl, rfl⟩
    | cons d q ih =>
      cases h with
      | skip h _ => rw [(star8_iff _).1 h]; exact .inr ⟨[], p, d :: q, rfl, rfl⟩
      | eat h _ => rw [(star8_iff _).1 h]; exact .inr ⟨[], p, d :: q, rfl, rfl⟩
      | one h h1 f =>
        obtain rfl := beq_iff_eq.1 h1
        cases p with
        | nil => cases f; exact .inl rfl
        | cons c' p =>
          rcases ih c' p f with h | ⟨u, v, t, h2, h3⟩
          · exact .inl (by rw [h])
          · exact .inr ⟨c :: u, v, t, by rw [h2]; rfl, by rw [h3]; rfl⟩
theorem vq_bytes {x : List UInt8} (h : vqL x = true) : ∀ c ∈ x, plB c.toNat = true := by
  cases x with
  | nil => intro c hc; simp at hc
  | cons y r =>
    unfold vqL qualL at h
    simp only [Bool.and_eq_true, List.all_eq_true] at h
    obtain ⟨⟨_, h1⟩, h2⟩ := h
    intro c hc
    rcases List.mem_cons.1 hc with rfl | hc
    · unfold plB; rw [h1]; rfl
    · exact h2 c hc
theorem pl_bound {c : UInt8} (h : plB c.toNat = true) : 48 ≤ c.toNat ∧ c.toNat ≤ 90 := by
  unfold plB upB dgB at h; simp at h; omega
theorem sub_name {x : List UInt8} (h : ∀ c ∈ x, plB c.toNat = true) : x.map sub = x := by
  induction x with
  | nil => rfl
  | cons c x ih =>
    have hc := pl_bound (h c (by simp))
    have : c ≠ 42 := fun e => by subst e; exact absurd hc.1 (by decide)
    rw [List.map_cons, sub, if_neg this, ih fun c hc => h c (by simp [hc])]
theorem vq_noSS {x : List UInt8} (h : vqL x = true) : isSSL x = false := by
  cases hs : isSSL x with
  | false => rfl
  | true => rw [(isSSL_iff x).1 hs] at h; cases h
theorem kp_name {x : List UInt8} (h : vqL x = true) : kpL x = x := by rw [kpL_other (vq_noSS h), sub_name (vq_bytes h)]
theorem key_name {l : List UInt8} (h : validL l = true) : keyL l = l := by
  obtain ⟨_, _, h⟩ := all_of h
  rw [key_is]
  have : (partsL l).map kpL = partsL l := (List.map_congr_left (g := id) fun x hx => kp_name (h x hx)).trans (List.map_id _)
  rw [this, join_parts]
theorem join_head (x : List UInt8) (r : List (List UInt8)) : joinL (x :: r) = x ++ (if r = [] then [] else 46 :: joinL r) := by
  cases r with
  | nil => simp [joinL]
  | cons y r => rw [joinL_cons _ (by simp), if_neg (by simp)]
theorem names_first {ps qs : List (List UInt8)} (h : Fits isSSL partL ps qs) (hp : ∀ x ∈ ps, pqL x = true) (hq : ∀ x ∈ qs, vqL x = true) (hps : ps ≠ []) (hqs : qs ≠ []) (hne : ps ≠ qs) :
    Lib.compareBytes (joinL qs) (joinL (ps.map kpL)) = -1 := by
  induction qs generalizing ps with
  | nil => exact absurd rfl hqs
  | cons q qs ih =>
    cases ps with
    | nil => exact absurd rfl hps
    | cons p ps =>
      rw [List.map_cons, join_head, join_head]
      have hv := hq q (by simp)
      cases hs : isSSL p with
      | true =>
        rw [(isSSL_iff p).1 hs, kpL_ss]
        refine cmp_lt fun c hc => ?_
        cases q with
        | nil => cases hv
        | cons d q =>
          simp at hc
          subst hc
          have := pl_bound (vq_bytes hv d (by simp))
          exact UInt8.lt_iff_toNat_lt.2 (by have e255 : (255 : UInt8).toNat = 255 := rfl; omega)
      | false =>
        rw [kpL_other hs]
        cases h with
        | skip h _ => rw [h] at hs; cases hs
        | eat h _ => rw [h] at hs; cases hs
        | one _ h1 f =>
          rcases part_shape ((matchL_iff _ _).1 h1) with rfl | ⟨u, v, t, rfl, rfl⟩
          · rw [sub_name (vq_bytes hv), cmp_app]
            by_cases e : ps = []
            · subst e
              cases f
              exact absurd rfl hne
            · have e' : ps.map kpL ≠ [] := fun h => e (List.map_eq_nil_iff.1 h)
              rw [if_neg e']
              by_cases eq : qs = []
              · rw [if_pos eq]; rfl
              · rw [if_neg eq]
                exact (cmp_app [46] _ _).trans (ih f (fun x hx => hp x (by simp [hx])) (fun x hx => hq x (by simp [hx])) e eq fun he => hne (by rw [he]))
          · have hu : ∀ c ∈ u, plB c.toNat = true := fun c hc => vq_bytes hv c (List.mem_append_left _ hc)
            have ht : ∀ c ∈ t, plB c.toNat = true := fun c hc => vq_bytes hv c (List.mem_append_right _ hc)
            rw [List.map_append, sub_name hu, List.map_cons, List.append_assoc, List.append_assoc, cmp_app, show sub 42 = 254 from rfl, List.cons_append]
            refine cmp_lt fun c hc => UInt8.lt_iff_toNat_lt.2 ?_
            have e254 : (254 : UInt8).toNat = 254 := rfl
            cases t with
            | nil =>
              by_cases eq : qs = []
              · simp [eq] at hc
              · simp [eq] at hc
                subst hc
                decide
            | cons d t =>
              simp at hc
              subst hc
              have := pl_bound (ht d (by simp))
              omega
theorem name_first {a b : List UInt8} (hb : patL b = true) (h : matchP b a = true) (hne : a ≠ b) : Lib.compareBytes (keyL a) (keyL b) = -1 := by
  have ha : validL a = true := by unfold matchP at h; simp at h; exact h.1.2
  have hf := (matchP_iff hb ha).1 h
  obtain ⟨_, _, hpb⟩ := all_of hb
  have hpa := all_of ha
  have := names_first hf hpb hpa.2.2 (partsL_ne b) (partsL_ne a) fun e => hne (by rw [← join_parts a, ← join_parts b, e])
  rw [join_parts, ← key_is] at this
  rw [key_name ha]
  exact this

/-! The laws of the order, over texts. -/
theorem order_nopat {a b : ByteArray} (h : ¬ (patB a = true ∧ patB b = true)) : orderV a b = 0 := by
  unfold orderV
  rw [if_neg]
  simpa using h
theorem order_is {a b : ByteArray} (ha : patB a = true) (hb : patB b = true) : orderV a b = Lib.compareBytes (keyL (bs a)) (keyL (bs b)) := by
  rw [order_bs]
  unfold orderL
  rw [← pat_bs, ← pat_bs, ha, hb]
  rfl
theorem order_flip {a b : ByteArray} (ha : patB a = true) (hb : patB b = true) : orderV b a = -orderV a b := by
  rw [order_is ha hb, order_is hb ha]; exact cmp_flip _ _
theorem order_range {a b : ByteArray} (ha : patB a = true) (hb : patB b = true) : -1 ≤ orderV a b ∧ orderV a b ≤ 1 := by
  rw [order_is ha hb]; exact cmp_range _ _
theorem order_same {a b : ByteArray} (ha : patB a = true) (hb : patB b = true) (h : orderV a b = 0) : a = b := by
  rw [order_is ha hb] at h
  exact bs_inj (key_inj (by rw [← pat_bs]; exact ha) (by rw [← pat_bs]; exact hb) (cmp_eq _ _ h))
theorem order_self {a : ByteArray} (ha : patB a = true) : orderV a a = 0 := by rw [order_is ha ha]; exact cmp_self _
theorem order_trans {a b c : ByteArray} (ha : patB a = true) (hb : patB b = true) (hc : patB c = true) (h1 : orderV a b ≤ 0) (h2 : orderV b c ≤ 0) : orderV a c ≤ 0 := by
  rw [order_is ha hb] at h1
  rw [order_is hb hc] at h2
  rw [order_is ha hc]
  exact cmp_trans _ _ _ h1 h2
theorem order_name {a b : ByteArray} (ha : patB a = true) (hb : patB b = true) (h : matchB b a = true) (hne : a ≠ b) : orderV a b = -1 := by
  rw [order_is ha hb]
  rw [match_bs] at h
  exact name_first (by rw [← pat_bs]; exact hb) h fun e => hne (bs_inj e)
end Go.Proofs.YtkoaeldlflncpaaDoor
