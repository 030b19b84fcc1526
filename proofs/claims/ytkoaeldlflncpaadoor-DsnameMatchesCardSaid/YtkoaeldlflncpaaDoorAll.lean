/-
  The contracts of all, Valid and ValidPattern.
-/
import Derived.Test.YtkoaeldlflncpaaDoorQual
import Derived.Test.YtkoaeldlflncpaaDoorShelf
import Derived.Laws.EntriesVeiled
namespace Go.Proofs.YtkoaeldlflncpaaDoor
open Go.RowKit Go.PlainAid

/-- Two stars; a full stop. -/
def ss : ByteArray := ⟨#[42, 42]⟩
def dot : ByteArray := ⟨#[46]⟩
/-- A qualifier of a pattern. -/
def pq (s : ByteArray) : Bool := (s.toList == [42, 42]) || qual stB psB s && !Lib.contains s.data.toList ss.data.toList
/-- What the library's search asks: that the variable MaxLen holds a number. -/
def MaxLen (w : World) : Prop := ∃ m, w.cell? ⟨1, 0, none⟩ = some (.int .i64 m)
theorem MaxLen.below {w w' : World} (h : MaxLen w) (hb : Below w.heap.size w w') : MaxLen w' := by
  obtain ⟨m, hm⟩ := h
  exact ⟨m, by rw [hb.cell (World.block_lt_of_cell? _ _ hm)]; exact hm⟩
theorem contains_short {s : ByteArray} {f g : Int → Bool} (h : qual f g s = true) : s.size < 4294967281 := by
  unfold qual at h; simp at h; omega
theorem valid2_any (s : ByteArray) (g : Nat) (w : World) (hm : MaxLen w) (hg : w.cell? ⟨g, 0, none⟩ = some (.func (.func 33) #[] #[])) :
    Calls Tryd.prog 36 #[.string s, .pointer (some ⟨g, 0, none⟩)] w fun e w' => e = .returned (.bool (pq s)) ∧ w = w' := by
  obtain ⟨m, hm⟩ := hm
  have HM := Lib.hid hm
  clear hm
  cases hs : (s.toList == [42, 42]) with
  | true =>
    have R : pq s = true := by simp [pq, hs]
    go_enter Tryd.func36, Tryd.ntmps36
    go_wp2_with fail
    go_ret
    exact ⟨by rw [R]; rfl, rfl⟩
  | false =>
    cases hq : qual stB psB s with
    | false =>
      have R : pq s = false := by simp [pq, hs, hq]
      go_enter Tryd.func36, Tryd.ntmps36
      go_wp2_with (go_at_call 37; refine (qualifier_any 33 38 _ _ star_class plainStar_class _ _).mono ?_; rw [hq]; rintro e w' ⟨rfl, rfl⟩)
      go_ret
      exact ⟨by rw [R]; rfl, rfl⟩
    | true =>
      have R : pq s = !Lib.contains s.data.toList ss.data.toList := by simp [pq, hs, hq]
      have hz := contains_short hq
      go_enter Tryd.func36, Tryd.ntmps36
      go_wp2_with (first | (go_at_call 37; refine (qualifier_any 33 38 _ _ star_class plainStar_class _ _).mono ?_; rw [hq]; rintro e w' ⟨rfl, rfl⟩) | (go_at_call 40; refine (Tryd.strings_Contains s ss m _ hz HM.out).mono ?_; rintro e w' ⟨rfl, rfl⟩))
      go_ret
      exact ⟨by rw [R]; rfl, rfl⟩

/-- The parts of a text between full stops. -/
def parts (s : ByteArray) : List ByteArray := Lib.splitB dot 0 (Lib.countB s dot) s
theorem parts_length (s : ByteArray) : (parts s).length = Lib.countB s dot + 1 := Lib.splitB_all dot (by decide) 0 _ s rfl
/-- The cells of a list of texts, from cell o of block B on. -/
def TextsAt (w : World) (B o : Nat) (xs : List ByteArray) : Prop := ∀ (j : Nat) x, xs[j]? = some x → w.cell? ⟨B, o + j, none⟩ = some (.string x)
theorem TextsAt.below {w w' : World} {B o : Nat} {xs : List ByteArray} (h : TextsAt w B o xs) (hb : Below w.heap.size w w') : TextsAt w' B o xs := fun j x hx => by
  have := h j x hx
  rw [hb.cell (World.block_lt_of_cell? _ _ this)]; exact this
theorem texts_new (w : World) (xs : List ByteArray) (t : TypeId) : TextsAt (w.alloc (.cells (xs.map Value.string).toArray t)) w.heap.size 0 xs := fun j x hx => by
  obtain ⟨hj, rfl⟩ := List.getElem?_eq_some_iff.1 hx
  simp [go_sem, hj]
/-- strings.Split at a full stop. -/
theorem split_any (s : ByteArray) (w : World) (hm : MaxLen w) (hs : s.size < 4294967281) :
    Calls Tryd.prog 21 #[.string s, .string dot] w fun e w' => e = .returned (.slice (some ⟨w.heap.size, 0, none⟩) (parts s).length (parts s).length) ∧ Below w.heap.size w w' ∧ TextsAt w' w.heap.size 0 (parts s) := by
  obtain ⟨m, hm⟩ := hm
  refine (Tryd.strings_Split s dot m w hs hm (by decide)).mono ?_
  rintro e w' ⟨rfl, rfl⟩
  exact ⟨by rw [parts_length], (Below.refl _ _).alloc (Nat.le_refl _) _, texts_new _ _ _⟩

/-- What 'all' asks of the function that it is handed. -/
def Accepts (k : Nat) (lb : Array Value) (p : ByteArray → Bool) (w : World) : Prop :=
  (∀ args w, (callFunc k args).run Tryd.prog w = .ok (.enter k args) w) ∧ ∀ s w', Below w.heap.size w w' → Calls Tryd.prog k (#[.string s] ++ lb) w' fun e w2 => e = .returned (.bool (p s)) ∧ w' = w2
/-- A text of 1 to a number of bytes, all of whose parts are accepted. -/
def allB (p : ByteArray → Bool) (most : Int) (s : ByteArray) : Bool := decide (1 ≤ s.size) && decide ((s.size : Int) ≤ most) && (parts s).all p
theorem allB_short {p : ByteArray → Bool} {most : Int} {s : ByteArray} (h : s.size < 1) : allB p most s = false := by
  have : s.size = 0 := by omega
  unfold allB; simp [this]
theorem allB_long {p : ByteArray → Bool} {most : Int} {s : ByteArray} (h : most < s.size) : allB p most s = false := by
  unfold allB; simp; omega
theorem allB_none {p : ByteArray → Bool} {most : Int} {s : ByteArray} {k : Nat} {x : ByteArray} (h : (parts s)[k]? = some x) (hx : p x = false) : allB p most s = false := by
  have : (parts s).all p = false := List.all_eq_false.2 ⟨x, List.mem_of_getElem? h, by simp [hx]⟩
  unfold allB; rw [this, Bool.and_false]
theorem allB_all {p : ByteArray → Bool} {most : Int} {s : ByteArray} (h1 : 1 ≤ s.size) (h2 : (s.size : Int) ≤ most) (h : ∀ (j : Nat) x, j < (parts s).length → (parts s)[j]? = some x → p x = true) : allB p most s = true := by
  have : (parts s).all p = true := List.all_eq_true.2 fun x hx => by
    obtain ⟨j, hj, rfl⟩ := List.mem_iff_getElem.1 hx
    exact h j _ hj (List.getElem?_eq_getElem hj)
  unfold allB; rw [this]; simp [h1, h2]

set_option maxHeartbeats 1000000 in
theorem all_any (k : Nat) (lb : Array Value) (p : ByteArray → Bool) (s : ByteArray) (most : Int) (w : World) (hk : Accepts k lb p w) (hm : MaxLen w) (hmost : most ≤ 100) :
    Calls Tryd.prog 35 #[.string s, .int .i64 most, .func (.func k) #[] lb] w fun e w' => e = .returned (.bool (allB p most s)) ∧ Below w.heap.size w w' := by
  obtain ⟨ek, ck⟩ := hk
  have CK := Lib.hid ck
  have HM := Lib.hid hm
  clear ck hm
  by_cases h1 : s.size < 1
  · have R := Lib.hid (allB_short (p := p) (most := most) h1)
    have h1' : (s.size : Int) < 1 := by omega
    go_enter Tryd.func35, Tryd.ntmps35
    go_wp2_with fail
    go_ret
    exact ⟨by rw [R.out]; rfl, Below.refl _ _⟩
  by_cases h8 : most < s.size
  · have R := Lib.hid (allB_long (p := p) h8)
    have h1' : decide ((s.size : Int) < 1) = false := by simp; omega
    go_enter Tryd.func35, Tryd.ntmps35
    go_wp2_with fail
    go_ret
    exact ⟨by rw [R.out]; rfl, Below.refl _ _⟩
  have h1' : decide ((s.size : Int) < 1) = false := by simp; omega
  have h8' : decide (most < (s.size : Int)) = false := by simp; omega
  obtain ⟨N, hN⟩ : ∃ N, (parts s).length = N := ⟨_, rfl⟩
  have HN := Lib.hid hN
  have hNb : N ≤ 4294967281 := by
    have := Lib.countB_le dot (by decide) s.size s (Nat.le_refl _)
    rw [← hN, parts_length]; omega
  have SP := Lib.hid (split_any s w HM.out (by omega))
  rw [hN] at SP
  clear hN
  go_enter Tryd.func35, Tryd.ntmps35
  go_wp2_with (go_at_call 21; refine SP.out.mono ?_; rintro e w1 ⟨rfl, hb, ht⟩)
  have HB := Lib.hid hb
  have HT := Lib.hid ht
  clear hb ht SP
  go_loopw [21] (fun i wr => ∃ j : Nat, j ≤ N ∧ i = .int .i64 j ∧ wr = w1 ∧ ∀ (n : Nat) x, n < j → (parts s)[n]? = some x → p x = true) (fun i _ => N - (intOf i).toNat)
  case atStart => exact ⟨0, by omega, rfl, rfl, fun n x hn => absurd hn (by omega)⟩
  case round =>
    obtain ⟨j, hj, rfl, rfl, hp⟩ := hrel
    have HP := Lib.hid hp
    clear hp
    by_cases hlt : j < N
    · obtain ⟨x, hx⟩ : ∃ x, (parts s)[j]? = some x := ⟨_, List.getElem?_eq_getElem (by rw [HN.out]; exact hlt)⟩
      have hcell := HT.out j x hx
      rw [Nat.zero_add] at hcell
      have HX := Lib.hid hx
      clear hx
      cases hd : p x with
      | true =>
        go_wp2_with (go_at_fn k; refine (CK.out x _ HB.out).mono ?_; rw [hd]; rintro e w' ⟨rfl, rfl⟩)
        go_roundw
        case rel => exact ⟨j + 1, by omega, by go_num, trivial, fun n y hn hy => by
          by_cases e : n = j
          · subst e; rw [HX.out] at hy; cases hy; exact hd
          · exact HP.out n y (by omega) hy⟩
        case measure => simp [intOf]; omega
      | false =>
        have R := Lib.hid (allB_none (most := most) HX.out hd)
        go_wp2_with (go_at_fn k; refine (CK.out x _ HB.out).mono ?_; rw [hd]; rintro e w' ⟨rfl, rfl⟩)
        go_ret
        exact ⟨by rw [R.out]; rfl, HB.out⟩
    · have R := Lib.hid (allB_all (p := p) (s := s) (most := most) (by omega) (by omega) (fun n x hn => HP.out n x (by have := HN.out; omega)))
      go_wp2_with fail
      go_ret
      exact ⟨by rw [R.out]; rfl, HB.out⟩
/-- The laws' texts: a name, a pattern. -/
def validB (s : ByteArray) : Bool := allB vq 31 s
def patB (s : ByteArray) : Bool := allB pq 31 s
theorem valid_any (s : ByteArray) (w : World) (hm : MaxLen w) : Calls Tryd.prog 12 #[.string s] w fun e w' => e = .returned (.bool (validB s)) ∧ Below w.heap.size w w' := by
  have A := Lib.hid (show Accepts 41 #[] vq w from ⟨enters_of Tryd.func41 (by kernel_rfl) rfl, fun s w' _ => valid1_any s w'⟩)
  go_enter Tryd.func12, Tryd.ntmps12
  go_wp2_with (go_at_call 35; refine (all_any 41 #[] vq s 31 w A.out hm (by decide)).mono ?_; rintro e w' ⟨rfl, hb⟩)
  go_ret
  exact ⟨rfl, hb⟩
theorem pattern_any (s : ByteArray) (w : World) (hm : MaxLen w) : Calls Tryd.prog 11 #[.string s] w fun e w' => e = .returned (.bool (patB s)) ∧ Below w.heap.size w w' := by
  have hb0 := (Below.refl w.heap.size w).alloc (Nat.le_refl _) (.cells #[.func (.func 33) #[] #[]] 42)
  have hm' := hm.below hb0
  have hc : (w.alloc (.cells #[.func (.func 33) #[] #[]] 42)).cell? ⟨w.heap.size, 0, none⟩ = some (.func (.func 33) #[] #[]) := by simp [go_sem]
  have A := Lib.hid (show Accepts 36 #[.pointer (some ⟨w.heap.size, 0, none⟩)] pq (w.alloc (.cells #[.func (.func 33) #[] #[]] 42)) from ⟨enters_of Tryd.func36 (by kernel_rfl) rfl, fun s w' hb => valid2_any s _ w' (hm'.below hb) (by rw [hb.cell (World.block_lt_of_cell? _ _ hc)]; exact hc)⟩)
  have HB := Lib.hid hb0
  have HM := Lib.hid hm'
  clear hb0 hm' hc hm
  go_enter Tryd.func11, Tryd.ntmps11
  go_wp2_with (go_at_call 35; refine (all_any 36 _ pq s 31 _ A.out HM.out (by decide)).mono ?_; rintro e w' ⟨rfl, hb⟩)
  go_ret
  exact ⟨rfl, HB.out.trans (hb.mono (by simp))⟩
end Go.Proofs.YtkoaeldlflncpaaDoor
