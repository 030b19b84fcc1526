/-
  The chapter's example holds: awake returns true.
-/
import Derived.Test.YtodlkjdmhfcpkaaDoorMonths
import Derived.Test.YtodlkjdmhfcpkaaDoorFormat
import Derived.Test.YtodlkjdmhfcpkaaDoorSearch
import Derived.Deep.WholeRow
namespace Go.Proofs.YtodlkjdmhfcpkaaDoor
open Go.RowKit Go.PlainAid

/-- The example's text. -/
def exText : ByteArray := ⟨#[50, 48, 50, 54, 45, 49, 49, 45, 49, 54]⟩
theorem ex_isText : isText exText := by
  refine ⟨rfl, fun j hj => ?_⟩
  have h : j = 0 ∨ j = 1 ∨ j = 2 ∨ j = 3 ∨ j = 4 ∨ j = 5 ∨ j = 6 ∨ j = 7 ∨ j = 8 ∨ j = 9 := by omega
  rcases h with rfl | rfl | rfl | rfl | rfl | rfl | rfl | rfl | rfl | rfl <;> decide
theorem ex_vals : vals exText 10 0 = 2026 ∧ vals exText 10 1 = 11 ∧ vals exText 10 2 = 16 := by decide
theorem ex_date : IsDate 2026 11 16 := ⟨by decide, by decide, by decide, by decide, by decide, by decide, by decide⟩
theorem ex_num : Cal.num 2026 11 16 = 9816 := by decide
theorem ex_parse : parseV exText = (9816, 0) := by
  unfold parseV
  rw [if_pos ex_isText, ex_vals.1, ex_vals.2.1, ex_vals.2.2, dayV_yes ex_date, ex_num]
theorem ex_c : Cal.cy 9816 = 2026 ∧ Cal.cm 9816 = 11 ∧ Cal.cd 9816 = 16 :=
  Cal.c_of 9816 2026 11 16 (by decide) ⟨by decide, by decide, by decide, by decide, by decide⟩ ex_num
theorem ex_text : dayText 9816 = exText := by
  unfold dayText
  rw [ex_c.1, ex_c.2.1, ex_c.2.2]
  decide
theorem ex_c30 : Cal.cy 30 = 2000 ∧ Cal.cm 30 = 1 ∧ Cal.cd 30 = 31 :=
  Cal.c_of 30 2000 1 31 (by decide) ⟨by decide, by decide, by decide, by decide, by decide⟩ (by decide)
theorem ex_add : addV 30 1 = (59, 0) := by
  unfold addV
  rw [if_pos ⟨by decide, by decide, by decide, by decide⟩]
  have e : amN 30 1 = 24001 := by unfold amN; rw [ex_c30.1, ex_c30.2.1]; decide
  unfold amV
  rw [e, ex_c30.2.2]
  have h : IsDate (24001 / 12) (24001 % 12 + 1) (min 31 (Cal.dim (24001 / 12) (24001 % 12 + 1))) := ⟨by decide, by decide, by decide, by decide, by decide, by decide, by decide⟩
  rw [dayV_yes h]
  decide
/-- The example's decisions. -/
theorem ex_dec (t : Int) (h0 : 100 ≤ t) (h1 : t ≤ 65536) : decI 0 10 0 0 100 0 false t = if 110 ≤ t then 1 else 0 := by
  have i0 : isD 0 = true := by decide
  have i1 : isD 10 = true := by decide
  have i2 : isD 100 = true := by decide
  have i3 : isD t = true := isD_true.2 ⟨by omega, h1⟩
  have e : (max 0 100 : Int) = 100 := by decide
  simp only [decI, fitB, expB, reachB, i0, i1, i2, i3, e]
  by_cases h : 110 ≤ t
  · have a : (10 : Int) ≤ t - 100 := by omega
    simp [h, a]
  · have a : ¬ (10 : Int) ≤ t - 100 := by omega
    simp [h, a]
theorem ex_next {e : Ending} (h : NextOut (decI 0 10 0 0 100 0 false) 100 e) : e = .returned (.tuple #[.int .i64 110, .bool true]) := by
  rcases h with ⟨_, h⟩ | ⟨h, _⟩
  · have hn : decI 0 10 0 0 100 0 false 100 = 0 := by rw [ex_dec 100 (by omega) (by omega)]; decide
    rw [hn] at h
    have h110 : decI 0 10 0 0 100 0 false 110 = 1 := by rw [ex_dec 110 (by omega) (by omega)]; decide
    rcases h with ⟨d, h1, h2, h3, h4, rfl⟩ | ⟨h1, _⟩
    · have hd : d = 110 := by
        by_cases k : d < 110
        · exact absurd (by rw [ex_dec d (by omega) h2, if_neg (by omega)]) h4
        · by_cases k' : 110 < d
          · have := h3 110 (by omega) k'; rw [h110] at this; cases this
          · omega
      rw [hd]
    · have := h1 110 (by omega) (by omega); rw [h110] at this; cases this
  · exact absurd h (by decide)
theorem ex_110 : decI 0 10 0 0 100 0 false 110 = 1 := by rw [ex_dec 110 (by omega) (by omega)]; decide
/-- The rest of an entry that is zero. -/
def zeroV : Nat → Value
  | 1 | 18 | 19 | 28 | 29 => .string ⟨#[]⟩
  | 16 | 27 => .bool false
  | 23 | 32 => .slice none 0 0
  | _ => .int .i64 0
theorem ex_cells : (entry zeroV 0 100 0 false).all (·.oneCell') = true := by kernel_rfl
section
variable {ops : Array Oper} {rest : List Oper} {o : Oper} {a : Act} {Q : Exit → Act → World → Prop}
/-- An entry stored whole into the block that was made last. -/
theorem store_entry_new (x y : Operand) (ho : o.op = .store 43 x y) (hw : Region.wanted o (yielded ops a.tmps) = true) (w0 : World) (hx : a.eval x = .pointer (some ⟨w0.heap.size, 0, none⟩)) (cells : Array Value) (hy : a.eval y = .agg cells) (old : Array Value)
    (hc : cells.size = 33) (h1 : cells.all (·.oneCell') = true) (h2 : old.size = 33)
    (h : wpList Tryd.prog ops Q rest (a.put o.dst undef) (w0.alloc (.cells cells 43))) : wpList Tryd.prog ops Q (o :: rest) a (w0.alloc (.cells old 43)) :=
  wpList_wanted hw fun _ hK => wp_store_row 43 x y ho w0.heap.size cells hx hy 43 old (heap_alloc_new w0 _) ((show (Tryd.prog.info? 43).map (·.size) = some 33 by kernel_rfl).trans (by rw [hc])) (by omega) h1 (hK _ _ (by rw [World.setRow_alloc_new]; exact h))
end
set_option maxHeartbeats 1000000 in
theorem awake_true (w : World) (ht : Tab w) :
    Calls Tryd.prog 10 #[] w fun e w' => e = .returned (.bool true) ∧ Below w.heap.size w w' := by
  have HT := Lib.hid ht
  clear ht
  go_enter Tryd.func10, Tryd.ntmps10
  go_wp2_with fail
  refine (parseF exText _).mono ?_
  rintro e w1 ⟨rfl, hb1⟩
  rw [ex_parse]
  have T1 := Lib.hid (HT.out.below hb1)
  have N1 := Lib.hid hb1
  clear hb1
  go_wp2_with fail
  refine (addMonths_any 30 1 _).mono ?_
  rintro e w2 ⟨rfl, hb2⟩
  rw [ex_add]
  have T2 := Lib.hid (T1.out.below hb2)
  have N2 := Lib.hid (N1.out.trans (hb2.mono N1.out.size))
  clear hb2
  have H3 := Lib.hid (heap_alloc_new w2 (.cells (entry zeroV 0 100 0 false) 43))
  go_wp2_with (first | (refine store_entry_new _ _ rfl (by rfl) w2 rfl (entry zeroV 0 100 0 false) rfl _ rfl ex_cells rfl ?_) | (refine load_entry _ rfl (by rfl) w2.heap.size rfl zeroV 0 100 0 false H3.out ?_))
  refine (next_any 0 10 0 zeroV 0 100 0 false 100 _).mono ?_
  rintro e w3 ⟨hx, hb3⟩
  obtain rfl := ex_next hx
  clear hx
  have T2' := T2.out.below ((Below.refl w2.heap.size w2).alloc (Nat.le_refl _) (.cells (entry zeroV 0 100 0 false) 43))
  have T3 := Lib.hid (T2'.below hb3)
  have N3 := Lib.hid ((N2.out.alloc N2.out.size (.cells (entry zeroV 0 100 0 false) 43)).trans (hb3.mono (by have := N2.out.size; simp; omega)))
  have H4 := Lib.hid (heap_below hb3 H3.out)
  have L3 := Lib.hid (show w2.heap.size < w3.heap.size by have := hb3.size; simp at this; omega)
  clear hb3 T2'
  have e5 := Lib.hid ex_text
  go_wp2_with (first | (go_at_call 19; refine (weekday_yes _ _ (by omega) (by omega)).mono ?_; rintro e w' ⟨rfl, rfl⟩))
  refine (format_yes _ _ T3.out (by omega) (by omega)).mono ?_
  rintro e w4 ⟨rfl, hb4⟩
  rw [e5.out]
  have N4 := Lib.hid (N3.out.trans (hb4.mono N3.out.size))
  have H5 := Lib.hid (heap_below hb4 H4.out)
  clear hb4
  unfold exText
  go_wp2_with (refine load_entry _ rfl (by rfl) w2.heap.size rfl zeroV 0 100 0 false H5.out ?_)
  refine (decide_any 0 10 0 zeroV 0 100 0 false 110 _).mono ?_
  rintro e w5 ⟨rfl, hb5⟩
  rw [ex_110]
  have N5 := Lib.hid (N4.out.trans (hb5.mono N4.out.size))
  clear hb5
  go_wp2_with fail
  go_ret
  exact ⟨rfl, N5.out⟩
end Go.Proofs.YtodlkjdmhfcpkaaDoor
