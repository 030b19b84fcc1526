/-
  The contract of Match.
-/
import Derived.Test.YtkoaeldlflncpaaDoorTable
import Derived.RegionTactic
import Derived.BigRegion
namespace Go.Proofs.YtkoaeldlflncpaaDoor
open Go.RowKit Go.PlainAid

/-- A star; two stars. -/
def star8 (c : UInt8) : Bool := c == 42
def isSS (s : ByteArray) : Bool := s.toList == [42, 42]
/-- Whether a qualifier matches one with stars. -/
def partB (p s : ByteArray) : Bool := matchL star8 (fun a b => a == b) (bs p) (bs s)
/-- Whether a name matches a pattern. -/
def matchB (p s : ByteArray) : Bool := patB p && validB s && matchL isSS partB (parts p) (parts s)

/-- A string in a block of its own. -/
def StrAt (w : World) (B : Nat) (s : ByteArray) : Prop := w.cell? ⟨B, 0, none⟩ = some (.string s)
theorem StrAt.below {w w' : World} {B : Nat} {s : ByteArray} (h : StrAt w B s) (hb : Below w.heap.size w w') : StrAt w' B s := by
  unfold StrAt; rw [hb.cell (World.block_lt_of_cell? _ _ h)]; exact h
theorem bs_get {s : ByteArray} {i : Nat} {a : UInt8} (h : (bs s)[i]? = some a) : i < s.size ∧ bt s i = a.toNat := by
  obtain ⟨hi, rfl⟩ := List.getElem?_eq_some_iff.1 h
  refine ⟨hi, ?_⟩
  rw [← get_bt s i hi]; rfl
theorem star1_any (B i : Nat) (s : ByteArray) (a : UInt8) (w : World) (h : StrAt w B s) (ha : (bs s)[i]? = some a) :
    Calls Tryd.prog 45 #[.int .i64 i, .pointer (some ⟨B, 0, none⟩)] w fun e w' => e = .returned (.bool (star8 a)) ∧ w = w' := by
  unfold StrAt at h
  have hbt := get_bt s
  obtain ⟨hi, he⟩ := bs_get ha
  have hr : (bt s i == 42) = star8 a := by
    rw [he, star8]
    by_cases e : a = 42
    · subst e; rfl
    · have : a.toNat ≠ 42 := fun h => e (UInt8.toNat_inj.1 h)
      rw [show (a == 42) = false by simpa using e]
      simp; omega
  have HR := Lib.hid hr
  clear ha he hr
  go_enter Tryd.func45, Tryd.ntmps45
  go_wp2_with fail
  go_ret
  exact ⟨by rw [← HR.out]; rfl, rfl⟩
theorem one1_any (B B' i k : Nat) (s t : ByteArray) (a b : UInt8) (w : World) (h : StrAt w B s) (h' : StrAt w B' t) (ha : (bs s)[i]? = some a) (hb : (bs t)[k]? = some b) :
    Calls Tryd.prog 46 #[.int .i64 i, .int .i64 k, .pointer (some ⟨B, 0, none⟩), .pointer (some ⟨B', 0, none⟩)] w fun e w' => e = .returned (.bool (a == b)) ∧ Below w.heap.size w w' := by
  unfold StrAt at h h'
  have hbt := get_bt s
  have hbt' := get_bt t
  obtain ⟨hi, he⟩ := bs_get ha
  obtain ⟨hk, he'⟩ := bs_get hb
  have hr : (bt s i == bt t k) = (a == b) := by
    rw [he, he']
    by_cases e : a = b
    · subst e; simp
    · have : a.toNat ≠ b.toNat := fun h => e (UInt8.toNat_inj.1 h)
      rw [show (a == b) = false by simpa using e]
      simp; omega
  have HR := Lib.hid hr
  clear ha hb he he' hr
  go_enter Tryd.func46, Tryd.ntmps46
  go_wp2_with fail
  go_quiet (fail)
  go_wp2_with fail
  go_ret
  exact ⟨by rw [← HR.out]; rfl, below_drewN (Below.refl _ _) _⟩
/-- A list of texts in a variable. -/
def ListVar (w : World) (V B : Nat) (xs : List ByteArray) : Prop := w.cell? ⟨V, 0, none⟩ = some (.slice (some ⟨B, 0, none⟩) xs.length xs.length) ∧ TextsAt w B 0 xs
theorem ListVar.below {w w' : World} {V B : Nat} {xs : List ByteArray} (h : ListVar w V B xs) (hb : Below w.heap.size w w') : ListVar w' V B xs :=
  ⟨by rw [hb.cell (World.block_lt_of_cell? _ _ h.1)]; exact h.1, h.2.below hb⟩
theorem match1_any (V B i : Nat) (xs : List ByteArray) (x : ByteArray) (w : World) (h : ListVar w V B xs) (hx : xs[i]? = some x) :
    Calls Tryd.prog 43 #[.int .i64 i, .pointer (some ⟨V, 0, none⟩)] w fun e w' => e = .returned (.bool (isSS x)) ∧ w = w' := by
  obtain ⟨hv, ht⟩ := h
  have hc := ht i x hx
  rw [Nat.zero_add] at hc
  have hi : i < xs.length := by obtain ⟨hi, _⟩ := List.getElem?_eq_some_iff.1 hx; exact hi
  obtain ⟨N, hN⟩ : ∃ N, xs.length = N := ⟨_, rfl⟩
  rw [hN] at hv hi
  clear hx ht hN
  go_enter Tryd.func43, Tryd.ntmps43
  go_wp2_with fail
  go_ret
  exact ⟨rfl, rfl⟩
theorem inner_any (V V' : Nat) (x y : ByteArray) (W : World) (hx : StrAt W V x) (hy : StrAt W V' y) (hxz : x.size ≤ 38) (hyz : y.size ≤ 38) :
    Calls Tryd.prog 42 #[.int .i64 x.size, .int .i64 y.size, .func (.func 45) #[] #[.pointer (some ⟨V, 0, none⟩)], .func (.func 46) #[] #[.pointer (some ⟨V, 0, none⟩), .pointer (some ⟨V', 0, none⟩)]] W fun e w' => e = .returned (.bool (partB x y)) ∧ Below W.heap.size W w' :=
  table_any star8 (fun a b => a == b) (bs x) (bs y) 45 46 _ _ x.size y.size rfl rfl hxz hyz W (enters_of Tryd.func45 (by kernel_rfl) rfl) (enters_of Tryd.func46 (by kernel_rfl) rfl)
    (fun i a w' ha hb => star1_any V i x a w' (hx.below hb) ha)
    (fun i k a b w' ha hb h => one1_any V V' i k x y a b w' (hx.below h) (hy.below h) ha hb)
set_option maxHeartbeats 2000000 in
theorem match2_any (V B V' B' i k : Nat) (xs ys : List ByteArray) (x y : ByteArray) (w : World) (h : ListVar w V B xs) (h' : ListVar w V' B' ys) (hx : xs[i]? = some x) (hy : ys[k]? = some y) (hxz : x.size ≤ 38) (hyz : y.size ≤ 38) :
    Calls Tryd.prog 44 #[.int .i64 i, .int .i64 k, .pointer (some ⟨V, 0, none⟩), .pointer (some ⟨V', 0, none⟩)] w fun e w' => e = .returned (.bool (partB x y)) ∧ Below w.heap.size w w' := by
  obtain ⟨hv, ht⟩ := h
  obtain ⟨hv', ht'⟩ := h'
  have hc := ht i x hx
  have hc' := ht' k y hy
  rw [Nat.zero_add] at hc hc'
  have hi : i < xs.length := by obtain ⟨hi, _⟩ := List.getElem?_eq_some_iff.1 hx; exact hi
  have hk : k < ys.length := by obtain ⟨hk, _⟩ := List.getElem?_eq_some_iff.1 hy; exact hk
  obtain ⟨N, hN⟩ : ∃ N, xs.length = N := ⟨_, rfl⟩
  obtain ⟨N', hN'⟩ : ∃ N', ys.length = N' := ⟨_, rfl⟩
  rw [hN] at hv hi
  rw [hN'] at hv' hk
  have l1 := World.block_lt_of_cell? _ _ hv
  have l2 := World.block_lt_of_cell? _ _ hv'
  have l3 := World.block_lt_of_cell? _ _ hc
  have l4 := World.block_lt_of_cell? _ _ hc'
  simp only at l1 l2 l3 l4
  have a1 : V ≠ w.heap.size := by omega
  have a2 : V ≠ w.heap.size + 1 := by omega
  have a3 : V' ≠ w.heap.size := by omega
  have a4 : V' ≠ w.heap.size + 1 := by omega
  have a5 : B ≠ w.heap.size := by omega
  have a6 : B ≠ w.heap.size + 1 := by omega
  have a7 : B' ≠ w.heap.size := by omega
  have a8 : B' ≠ w.heap.size + 1 := by omega
  clear hx ht hN hy ht' hN'
  go_enter Tryd.func44, Tryd.ntmps44
  go_wp2_with fail
  have N1 := Lib.hid ((((Below.refl w.heap.size w).alloc (Nat.le_refl _) (.cells #[.string x] 9)).alloc (by simp) (.cells #[.string y] 9)).drew)
  have N2 := Lib.hid ((((Below.refl w.heap.size w).alloc (Nat.le_refl _) (.cells #[.string y] 9)).alloc (by simp) (.cells #[.string x] 9)).drew)
  have X1 := Lib.hid (show StrAt ((w.alloc (.cells #[.string x] 9)).alloc (.cells #[.string y] 9)).drew w.heap.size x by simp [StrAt, go_sem])
  have Y1 := Lib.hid (show StrAt ((w.alloc (.cells #[.string x] 9)).alloc (.cells #[.string y] 9)).drew (w.heap.size + 1) y by simp [StrAt, go_sem])
  have X2 := Lib.hid (show StrAt ((w.alloc (.cells #[.string y] 9)).alloc (.cells #[.string x] 9)).drew (w.heap.size + 1) x by simp [StrAt, go_sem])
  have Y2 := Lib.hid (show StrAt ((w.alloc (.cells #[.string y] 9)).alloc (.cells #[.string x] 9)).drew w.heap.size y by simp [StrAt, go_sem])
  go_region
  · go_wp2_with (go_at_call 42; refine (inner_any _ _ x y _ X1.out Y1.out hxz hyz).mono ?_; rintro e w1 ⟨rfl, hb⟩)
    go_ret
    exact ⟨rfl, N1.out.trans (hb.mono N1.out.size)⟩
  · go_wp2_with (go_at_call 42; refine (inner_any _ _ x y _ X2.out Y2.out hxz hyz).mono ?_; rintro e w1 ⟨rfl, hb⟩)
    go_ret
    exact ⟨rfl, N2.out.trans (hb.mono N2.out.size)⟩
theorem parts_le {s x : ByteArray} (h : x ∈ parts s) : x.size ≤ s.size := by
  have hx : bs x ∈ partsL (bs s) := by rw [← parts_bs]; exact List.mem_map_of_mem h
  have : ∀ (l : List UInt8) y, y ∈ partsL l → y.length ≤ l.length := fun l => by
    induction l with
    | nil => intro y hy; simp [partsL] at hy; simp [hy]
    | cons c r ih =>
      intro y hy
      by_cases hc : c = 46
      · subst hc; rw [partsL_dot] at hy
        rcases List.mem_cons.1 hy with rfl | hy
        · simp
        · have := ih y hy; simp; omega
      · obtain ⟨z, zs, h1, h2⟩ := partsL_other (r := r) hc
        rw [h2] at hy; rw [h1] at ih
        rcases List.mem_cons.1 hy with rfl | hy
        · have := ih z (by simp); simp; omega
        · have := ih y (by simp [hy]); simp; omega
  exact this _ _ hx
theorem parts_few (s : ByteArray) : (parts s).length ≤ s.size + 1 := by
  have := Lib.countB_le dot (by decide) s.size s (Nat.le_refl _)
  rw [parts_length]; omega
theorem patB_size {s : ByteArray} (h : patB s = true) : 1 ≤ s.size ∧ s.size ≤ 31 := by
  unfold patB allB at h; simp at h; omega
/-- The table over the parts of a pattern and of a name. -/
theorem outer_any (V B V' B' : Nat) (p s : ByteArray) (W : World) (h : ListVar W V B (parts p)) (h' : ListVar W V' B' (parts s)) (hp : p.size ≤ 31) (hs : s.size ≤ 31) :
    Calls Tryd.prog 42 #[.int .i64 (parts p).length, .int .i64 (parts s).length, .func (.func 43) #[] #[.pointer (some ⟨V, 0, none⟩)], .func (.func 44) #[] #[.pointer (some ⟨V, 0, none⟩), .pointer (some ⟨V', 0, none⟩)]] W fun e w' => e = .returned (.bool (matchL isSS partB (parts p) (parts s))) ∧ Below W.heap.size W w' :=
  have f1 := parts_few p
  have f2 := parts_few s
  table_any isSS partB (parts p) (parts s) 43 44 _ _ _ _ rfl rfl (by omega) (by omega) W (enters_of Tryd.func43 (by kernel_rfl) rfl) (enters_of Tryd.func44 (by kernel_rfl) rfl)
    (fun i a w' ha hb => match1_any V B i _ a w' (h.below hb) ha)
    (fun i k a b w' ha hb hw => match2_any V B V' B' i k _ _ a b w' (h.below hw) (h'.below hw) ha hb
      (by have := parts_le (List.mem_of_getElem? ha); omega) (by have := parts_le (List.mem_of_getElem? hb); omega))
theorem vars_new (w : World) (B B' : Nat) (xs ys : List ByteArray) (hx : TextsAt w B 0 xs) (hy : TextsAt w B' 0 ys) :
    ListVar ((w.alloc (.cells #[.slice (some ⟨B, 0, none⟩) xs.length xs.length] 24)).alloc (.cells #[.slice (some ⟨B', 0, none⟩) ys.length ys.length] 24)) w.heap.size B xs ∧
    ListVar ((w.alloc (.cells #[.slice (some ⟨B, 0, none⟩) xs.length xs.length] 24)).alloc (.cells #[.slice (some ⟨B', 0, none⟩) ys.length ys.length] 24)) (w.heap.size + 1) B' ys ∧
    Below w.heap.size w ((w.alloc (.cells #[.slice (some ⟨B, 0, none⟩) xs.length xs.length] 24)).alloc (.cells #[.slice (some ⟨B', 0, none⟩) ys.length ys.length] 24)) := by
  have N := ((Below.refl w.heap.size w).alloc (Nat.le_refl _) (.cells #[.slice (some ⟨B, 0, none⟩) xs.length xs.length] 24)).alloc (by simp) (.cells #[.slice (some ⟨B', 0, none⟩) ys.length ys.length] 24)
  refine ⟨⟨?_, hx.below N⟩, ⟨?_, hy.below N⟩, N⟩
  · simp [go_sem]
  · simp [go_sem]
set_option maxHeartbeats 1000000 in
theorem match_any (p s : ByteArray) (w : World) (hm : MaxLen w) : Calls Tryd.prog 14 #[.string p, .string s] w fun e w' => e = .returned (.bool (matchB p s)) ∧ Below w.heap.size w w' := by
  have HM := Lib.hid hm
  clear hm
  cases hp : patB p with
  | false =>
    have R : matchB p s = false := by simp [matchB, hp]
    go_enter Tryd.func14, Tryd.ntmps14
    go_wp2_with (go_at_call 11; refine (pattern_any p _ HM.out).mono ?_; rw [hp]; rintro e w1 ⟨rfl, hb1⟩)
    go_ret
    exact ⟨by rw [R]; rfl, hb1⟩
  | true =>
    cases hs : validB s with
    | false =>
      have R : matchB p s = false := by simp [matchB, hp, hs]
      go_enter Tryd.func14, Tryd.ntmps14
      go_wp2_with (first | (go_at_call 11; refine (pattern_any p _ HM.out).mono ?_; rw [hp]; rintro e w1 ⟨rfl, hb1⟩) | (go_at_call 12; refine (valid_any s _ (HM.out.below hb1)).mono ?_; rw [hs]; rintro e w2 ⟨rfl, hb2⟩))
      go_ret
      exact ⟨by rw [R]; rfl, hb1.trans (hb2.mono hb1.size)⟩
    | true =>
      have R : matchB p s = matchL isSS partB (parts p) (parts s) := by simp [matchB, hp, hs]
      have zp := patB_size hp
      have zs := validB_size hs
      go_enter Tryd.func14, Tryd.ntmps14
      go_wp2_with fail
      refine (pattern_any p _ HM.out).mono ?_
      rw [hp]
      rintro e w1 ⟨rfl, hb1⟩
      have B1 := Lib.hid hb1
      have M1 := Lib.hid (HM.out.below hb1)
      clear hb1
      go_wp2_with fail
      refine (valid_any s _ M1.out).mono ?_
      rw [hs]
      rintro e w2 ⟨rfl, hb2⟩
      have B2 := Lib.hid (B1.out.trans (hb2.mono B1.out.size))
      have M2 := Lib.hid (M1.out.below hb2)
      clear hb2
      go_wp2_with fail
      refine (split_any p _ M2.out (by omega)).mono ?_
      rintro e w3 ⟨rfl, hb3, ht3⟩
      have B3 := Lib.hid (B2.out.trans (hb3.mono B2.out.size))
      have M3 := Lib.hid (M2.out.below hb3)
      have T3 := Lib.hid ht3
      clear hb3 ht3
      go_wp2_with fail
      refine (split_any s _ M3.out (by omega)).mono ?_
      rintro e w4 ⟨rfl, hb4, ht4⟩
      have B4 := Lib.hid (B3.out.trans (hb4.mono B3.out.size))
      have T3' := Lib.hid (T3.out.below hb4)
      have T4 := Lib.hid ht4
      clear hb4 ht4
      go_wp2_with fail
      obtain ⟨L1, L2, N⟩ := vars_new w4 w2.heap.size w3.heap.size (parts p) (parts s) T3'.out T4.out
      refine (outer_any _ _ _ _ p s _ L1 L2 zp.2 zs.2).mono ?_
      rintro e w5 ⟨rfl, hb5⟩
      go_wp2_with fail
      go_ret
      exact ⟨by rw [R]; rfl, B4.out.trans ((N.trans (hb5.mono N.size)).mono B4.out.size)⟩
end Go.Proofs.YtkoaeldlflncpaaDoor
