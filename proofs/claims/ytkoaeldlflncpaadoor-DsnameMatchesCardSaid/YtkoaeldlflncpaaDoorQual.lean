/-
  The contracts of qualifier and of the functions that Valid and ValidPattern hand on.
-/
import Derived.Test.YtkoaeldlflncpaaDoorLeaf
import Derived.Shelf.Abstract
namespace Go.Proofs.YtkoaeldlflncpaaDoor
open Go.RowKit Go.PlainAid

/-- From 1 to 8 bytes of a class, the first of another. -/
def qual (f g : Int → Bool) (s : ByteArray) : Bool := decide (1 ≤ s.size) && decide (s.size ≤ 8) && f (bt s 0) && (List.range s.size).all fun j => decide (j = 0) || g (bt s j)
theorem qual_short {f g : Int → Bool} {s : ByteArray} (h : s.size < 1) : qual f g s = false := by
  unfold qual; simp; omega
theorem qual_long {f g : Int → Bool} {s : ByteArray} (h : 8 < s.size) : qual f g s = false := by
  unfold qual; simp; omega
theorem qual_first {f g : Int → Bool} {s : ByteArray} (h : f (bt s 0) = false) : qual f g s = false := by
  unfold qual; simp [h]
theorem qual_none {f g : Int → Bool} {s : ByteArray} {k : Nat} (h1 : 1 ≤ k) (h2 : k < s.size) (h : g (bt s k) = false) : qual f g s = false := by
  have : ((List.range s.size).all fun j => decide (j = 0) || g (bt s j)) = false := by
    rw [List.all_eq_false]
    exact ⟨k, List.mem_range.2 h2, by simp [h]; omega⟩
  unfold qual; rw [this, Bool.and_false]
theorem qual_all {f g : Int → Bool} {s : ByteArray} (h1 : 1 ≤ s.size) (h8 : s.size ≤ 8) (hf : f (bt s 0) = true) (h : ∀ j, 1 ≤ j → j < s.size → g (bt s j) = true) : qual f g s = true := by
  have : ((List.range s.size).all fun j => decide (j = 0) || g (bt s j)) = true := by
    rw [List.all_eq_true]
    intro j hj
    by_cases e : j = 0
    · simp [e]
    · simp [h j (by omega) (List.mem_range.1 hj)]
  unfold qual; simp [*]

/-- What a class of bytes asks of its function. -/
def IsClass (a : Nat) (f : Int → Bool) : Prop := (∀ args w, (callFunc a args).run Tryd.prog w = .ok (.enter a args) w) ∧ ∀ c w, Calls Tryd.prog a #[.int .u8 c] w fun e w' => e = .returned (.bool (f c)) ∧ w = w'

set_option maxHeartbeats 1000000 in
theorem qualifier_any (a b : Nat) (f g : Int → Bool) (ha : IsClass a f) (hb : IsClass b g) (s : ByteArray) (w : World) :
    Calls Tryd.prog 37 #[.string s, .func (.func a) #[] #[], .func (.func b) #[] #[]] w fun e w' => e = .returned (.bool (qual f g s)) ∧ w = w' := by
  obtain ⟨ea, ca⟩ := ha
  obtain ⟨eb, cb⟩ := hb
  have hbt := get_bt s
  by_cases h1 : s.size < 1
  · have R := Lib.hid (qual_short (f := f) (g := g) h1)
    have h1' : (s.size : Int) < 1 := by omega
    go_enter Tryd.func37, Tryd.ntmps37
    go_wp2_with fail
    go_ret
    exact ⟨by rw [R.out]; rfl, rfl⟩
  by_cases h8 : 8 < s.size
  · have R := Lib.hid (qual_long (f := f) (g := g) h8)
    have h1' : decide ((s.size : Int) < 1) = false := by simp; omega
    have h8' : (8 : Int) < s.size := by omega
    go_enter Tryd.func37, Tryd.ntmps37
    go_wp2_with fail
    go_ret
    exact ⟨by rw [R.out]; rfl, rfl⟩
  have h0 : 0 < s.size := by omega
  have h1' : decide ((s.size : Int) < 1) = false := by simp; omega
  have h8' : decide ((8 : Int) < s.size) = false := by simp; omega
  cases hf : f (bt s 0) with
  | false =>
    have R := Lib.hid (qual_first (f := f) (g := g) hf)
    go_enter Tryd.func37, Tryd.ntmps37
    go_wp2_with (go_at_fn a; refine (ca _ _).mono ?_; rw [hf]; rintro e w' ⟨rfl, rfl⟩)
    go_ret
    exact ⟨by rw [R.out]; rfl, rfl⟩
  | true =>
    go_enter Tryd.func37, Tryd.ntmps37
    go_wp2_with (go_at_fn a; refine (ca _ _).mono ?_; rw [hf]; rintro e w' ⟨rfl, rfl⟩)
    go_loopw [7] (fun i wr => ∃ k : Nat, 1 ≤ k ∧ k ≤ s.size ∧ i = .int .i64 k ∧ wr = w ∧ ∀ j, 1 ≤ j → j < k → g (bt s j) = true) (fun i _ => s.size - (intOf i).toNat)
    case atStart => exact ⟨1, by omega, by omega, rfl, rfl, fun j h1 h2 => absurd h1 (by omega)⟩
    case round =>
      obtain ⟨k, hk1, hk, rfl, rfl, hg⟩ := hrel
      have HG := Lib.hid hg
      clear hg
      by_cases hlt : k < s.size
      · cases hd : g (bt s k) with
        | true =>
          go_wp2_with (go_at_fn b; refine (cb _ _).mono ?_; rw [hd]; rintro e w' ⟨rfl, rfl⟩)
          go_roundw
          case rel => exact ⟨k + 1, by omega, by omega, by go_num, trivial, fun j h1 h2 => by
            by_cases e : j = k
            · rw [e]; exact hd
            · exact HG.out j h1 (by omega)⟩
          case measure => simp [intOf]; omega
        | false =>
          have R := Lib.hid (qual_none (f := f) (g := g) hk1 hlt hd)
          go_wp2_with (go_at_fn b; refine (cb _ _).mono ?_; rw [hd]; rintro e w' ⟨rfl, rfl⟩)
          go_ret
          exact ⟨by rw [R.out]; rfl, rfl⟩
      · have R := Lib.hid (qual_all (f := f) (g := g) (by omega) (by omega) hf (fun j h1 h2 => HG.out j h1 (by omega)))
        go_wp2_with fail
        go_ret
        exact ⟨by rw [R.out]; rfl, rfl⟩
theorem upper_class : IsClass 34 upB := ⟨enters_of Tryd.func34 (by kernel_rfl) rfl, upper_any⟩
theorem plain_class : IsClass 39 plB := ⟨enters_of Tryd.func39 (by kernel_rfl) rfl, plain_any⟩
theorem star_class : IsClass 33 stB := ⟨enters_of Tryd.func33 (by kernel_rfl) rfl, star_any⟩
theorem plainStar_class : IsClass 38 psB := ⟨enters_of Tryd.func38 (by kernel_rfl) rfl, plainStar_any⟩

/-- A qualifier of a name. -/
def vq (s : ByteArray) : Bool := qual upB plB s
theorem valid1_any (s : ByteArray) (w : World) : Calls Tryd.prog 41 #[.string s] w fun e w' => e = .returned (.bool (vq s)) ∧ w = w' := by
  go_enter Tryd.func41, Tryd.ntmps41
  go_wp2_with (go_at_call 37; refine (qualifier_any 34 39 _ _ upper_class plain_class _ _).mono ?_; rintro e w' ⟨rfl, rfl⟩)
  go_ret
  exact ⟨rfl, rfl⟩
end Go.Proofs.YtkoaeldlflncpaaDoor
