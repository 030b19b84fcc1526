/-
  The contract of the reference's Digits: a number with just as many digits as asked for.
-/
import Derived.Test.YtkoaeldlflncpaaDoorSplit
namespace Go.Proofs.YtkoaeldlflncpaaDoor
open Go.RowKit

/-- The last digits of a number. -/
def digs (n : Nat) : Nat → List UInt8
  | 0 => []
  | j + 1 => UInt8.ofNat (48 + n / 10 ^ j % 10) :: digs n j
theorem digs_length (n j : Nat) : (digs n j).length = j := by
  induction j with
  | zero => rfl
  | succ j ih => rw [digs, List.length_cons, ih]

/-- The length of a slot's string. -/
def szOf : Value → Nat | .string b => b.size | _ => 0
/-- Where Digits stands behind j rounds. -/
def DigAt (n j : Nat) (q : Nat) (sb : ByteArray) : Prop := q = n / 10 ^ j ∧ sb = ⟨(digs n j).toArray⟩
theorem DigAt.size {n j q : Nat} {sb : ByteArray} (h : DigAt n j q sb) : sb.size = j := by rw [h.2]; exact digs_length n j
theorem DigAt.le {n j q : Nat} {sb : ByteArray} (h : DigAt n j q sb) : q ≤ n := by rw [h.1]; exact Nat.div_le_self _ _

/-- The text of the last digit. -/
def one (q : Nat) : ByteArray := ⟨#[UInt8.ofNat (48 + q % 10)]⟩
theorem one_size (q : Nat) : (one q).size = 1 := rfl
theorem one_add_size (q : Nat) (s : ByteArray) : (one q ++ s).size = s.size + 1 := by rw [ByteArray.size_append, one_size]; omega
/-- 'string([]byte{c})'. -/
theorem conv_one (q : Nat) (w : World) : (convert 49 9 (.slice (some ⟨w.heap.size, 0, none⟩) 1 1)).run Tryd.prog (w.alloc (.cells #[.int .u8 (48 + (q : Int) % 10)] 5)) = .ok (.string (one q)) (w.alloc (.cells #[.int .u8 (48 + (q : Int) % 10)] 5)) := by
  have := run_convert_bytes_back (P := Tryd.prog) (w.alloc (.cells #[.int .u8 (48 + (q : Int) % 10)] 5)) 49 9 5 ⟨w.heap.size, 0, none⟩ 1 [UInt8.ofNat (48 + q % 10)] Tryd.underlying49 Tryd.underlying5 Tryd.underlying9 (fun j hj => by
    have hj0 : j = 0 := by simpa using hj
    subst hj0
    have : (48 + q % 10) % 256 = 48 + q % 10 := by omega
    simp [go_sem, this])
  exact this
theorem DigAt.step {n j q : Nat} {sb : ByteArray} (h : DigAt n j q sb) : DigAt n (j + 1) (q / 10) (one q ++ sb) := by
  obtain ⟨rfl, rfl⟩ := h
  refine ⟨by rw [Nat.div_div_eq_div_mul, Nat.pow_succ], ?_⟩
  apply ByteArray.ext
  simp [digs, one]
theorem DigAt.done {n j q : Nat} {sb : ByteArray} (h : DigAt n j q sb) (hn : n < 10 ^ j) : q = 0 := by rw [h.1]; exact Nat.div_eq_of_lt hn

set_option maxHeartbeats 1000000 in
theorem digits_any (n wd : Nat) (w : World) (h : n < 10 ^ wd) (hw : wd ≤ 10) (hn : n ≤ 10000000000) :
    Calls Tryd.prog 66 #[.int .i64 n, .int .i64 wd] w fun e w' => e = .returned (.string ⟨(digs n wd).toArray⟩) ∧ Below w.heap.size w w' := by
  have HN := Lib.hid h
  clear h
  go_enter Tryd.func66, Tryd.ntmps66
  go_wp2_with fail
  go_loopw [0, 5] (fun a s wr => ∃ (j q : Nat) (sb : ByteArray), j ≤ wd ∧ a = .int .i64 (q : Int) ∧ s = .string sb ∧ DigAt n j q sb ∧ Below w.heap.size w wr) (fun _ s _ => wd - szOf s)
  case atStart => exact ⟨0, n, _, by omega, rfl, rfl, ⟨by simp, rfl⟩, Below.refl _ _⟩
  case round =>
    obtain ⟨j, q, sb, hj, rfl, rfl, hd, hb⟩ := hrel
    have hsz := hd.size
    have hq := hd.le
    have HB := Lib.hid hb
    have HD := Lib.hid hd
    have HZ := Lib.hid hsz
    have hsz' : sb.size ≤ 10 := by omega
    clear hb hd
    have hcv := conv_one q
    have hos := one_size q
    by_cases hlt : j < wd
    · have hlt' : sb.size < wd := by omega
      have hlt2 : decide (sb.size < wd) = true := by simp; omega
      have HL := Lib.hid hlt
      clear hsz hlt hj
      by_cases hq0 : 0 < q
      · go_wp2_with fail
        go_roundw
        case rel => exact ⟨j + 1, q / 10, _, HL.out, by simp, rfl, HD.out.step, HB.out.alloc HB.out.size _⟩
        case measure => simp only [szOf, one_add_size]; omega
      · have hqb : decide (0 < q) = false := by simp; omega
        clear hq0
        go_wp2_with fail
        go_roundw
        case rel => exact ⟨j + 1, q / 10, _, HL.out, by simp, rfl, HD.out.step, HB.out.alloc HB.out.size _⟩
        case measure => simp only [szOf, one_add_size]; omega
    · obtain rfl : j = wd := by omega
      obtain rfl := HD.out.done HN.out
      have hlt2 : decide (sb.size < j) = false := by simp; omega
      clear hsz
      go_wp2_with fail
      go_ret
      exact ⟨by rw [← HD.out.2]; rfl, HB.out⟩
end Go.Proofs.YtkoaeldlflncpaaDoor
