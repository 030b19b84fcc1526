/-
  A policy and an entry that come in by value, opened: the numbers that the laws look at.
-/
import Derived.Test.YtodlkjdmhfcpkaaDoorFrame
import Derived.Test.YtodlkjdmhfcpkaaDoorAwake
namespace Go.Proofs.YtodlkjdmhfcpkaaDoor
open Go.ChangeShapes Go.WideShapes Go.ChangeAt Go.RowKit

theorem cell_int {w : World} {r : Reach} {base : Nat} {v : Value} (h : Cell.okWide Tryd.prog w r base 3 v) : ∃ n, v = .int .i64 n := by
  simp only [Cell.okWide, Tryd.underlying3] at h
  cases v <;> simp_all [Cell.ok, Tryd.underlying3]
theorem cell_bool {w : World} {r : Reach} {base : Nat} {v : Value} (h : Cell.okWide Tryd.prog w r base 4 v) : ∃ b, v = .bool b := by
  simp only [Cell.okWide, Tryd.underlying4] at h
  cases v <;> simp_all [Cell.ok, Tryd.underlying4]
theorem types43 : Tryd.prog.cellTypes Tryd.prog.depth 43 = some [3, 9, 3, 3, 3, 3, 3, 3, 3, 3, 3, 3, 3, 3, 3, 3, 4, 3, 9, 9, 3, 3, 4, 40, 3, 3, 3, 4, 9, 9, 3, 3, 41] := by kernel_rfl
theorem types37 : Tryd.prog.cellTypes Tryd.prog.depth 37 = some [3, 3, 3] := by kernel_rfl
theorem cells43 : Tryd.prog.cellsOf 43 = 33 := by kernel_rfl
theorem cells37 : Tryd.prog.cellsOf 37 = 3 := by kernel_rfl
theorem open_policy {w : World} {r : Reach} {base : Nat} {v : Value} (h : Value.okWide Tryd.prog w r base 37 v) : ∃ kp un ac : Int, v = .agg #[.int .i64 kp, .int .i64 un, .int .i64 ac] := by
  have h' : ∃ cs, v = .agg cs ∧ cs.size = Tryd.prog.cellsOf 37 ∧ Row.okWide Tryd.prog w r base 37 cs := by
    simpa only [Value.okWide, Tryd.underlying37] using h
  obtain ⟨cs, rfl, hsz, ts, hts, _, hc⟩ := h'
  rw [types37] at hts
  obtain rfl := Option.some.inj hts
  rw [cells37] at hsz
  have g : ∀ i (hi : i < 3), ∃ n, cs[i]'(by omega) = .int .i64 n := fun i hi => by
    obtain ⟨u, hu, hk⟩ := hc i (cs[i]'(by omega)) (Array.getElem?_eq_getElem (by omega))
    have h3 : u = 3 := by
      have : i = 0 ∨ i = 1 ∨ i = 2 := by omega
      rcases this with rfl | rfl | rfl <;> simpa using hu.symm
    subst h3
    exact cell_int hk
  obtain ⟨a, ha⟩ := g 0 (by omega)
  obtain ⟨b, hb⟩ := g 1 (by omega)
  obtain ⟨c, hc'⟩ := g 2 (by omega)
  refine ⟨a, b, c, congrArg Value.agg ?_⟩
  apply Array.ext
  · simpa using hsz
  · intro i hi _
    have : i = 0 ∨ i = 1 ∨ i = 2 := by omega
    rcases this with rfl | rfl | rfl
    · exact ha
    · exact hb
    · exact hc'
theorem open_entry {w : World} {r : Reach} {base : Nat} {v : Value} (h : Value.okWide Tryd.prog w r base 43 v) : ∃ (vf : Nat → Value) (cr us ex : Int) (ar : Bool), v = .agg (entry vf cr us ex ar) := by
  have h' : ∃ cs, v = .agg cs ∧ cs.size = Tryd.prog.cellsOf 43 ∧ Row.okWide Tryd.prog w r base 43 cs := by
    simpa only [Value.okWide, Tryd.underlying43] using h
  obtain ⟨cs, rfl, hsz, ts, hts, _, hc⟩ := h'
  rw [types43] at hts
  obtain rfl := Option.some.inj hts
  rw [cells43] at hsz
  have g : ∀ i (hi : i < 33), (i = 20 ∨ i = 21 ∨ i = 24) → ∃ n, cs[i]'(by omega) = .int .i64 n := fun i hi ho => by
    obtain ⟨u, hu, hk⟩ := hc i (cs[i]'(by omega)) (Array.getElem?_eq_getElem (by omega))
    have h3 : u = 3 := by
      rcases ho with rfl | rfl | rfl <;> simpa using hu.symm
    subst h3
    exact cell_int hk
  have gb : ∃ b, cs[22]'(by omega) = .bool b := by
    obtain ⟨u, hu, hk⟩ := hc 22 (cs[22]'(by omega)) (Array.getElem?_eq_getElem (by omega))
    have h4 : u = 4 := by simpa using hu.symm
    subst h4
    exact cell_bool hk
  obtain ⟨cr, h20⟩ := g 20 (by omega) (by omega)
  obtain ⟨ex, h21⟩ := g 21 (by omega) (by omega)
  obtain ⟨us, h24⟩ := g 24 (by omega) (by omega)
  obtain ⟨ar, h22⟩ := gb
  have at_ : ∀ i (hi : i < 33), cs[i]'(by omega) = cs.getD i undef := fun i hi => by
    rw [Array.getD_eq_getD_getElem?, Array.getElem?_eq_getElem (by omega)]; rfl
  refine ⟨fun i => cs.getD i undef, cr, us, ex, ar, congrArg Value.agg ?_⟩
  apply Array.ext
  · simpa using hsz
  · intro i hi _
    have : i = 0 ∨ i = 1 ∨ i = 2 ∨ i = 3 ∨ i = 4 ∨ i = 5 ∨ i = 6 ∨ i = 7 ∨ i = 8 ∨ i = 9 ∨ i = 10 ∨ i = 11 ∨ i = 12 ∨ i = 13 ∨ i = 14 ∨ i = 15 ∨ i = 16 ∨ i = 17 ∨ i = 18 ∨ i = 19 ∨ i = 20 ∨ i = 21 ∨ i = 22 ∨ i = 23 ∨ i = 24 ∨ i = 25 ∨ i = 26 ∨ i = 27 ∨ i = 28 ∨ i = 29 ∨ i = 30 ∨ i = 31 ∨ i = 32 := by omega
    rcases this with rfl | rfl | rfl | rfl | rfl | rfl | rfl | rfl | rfl | rfl | rfl | rfl | rfl | rfl | rfl | rfl | rfl | rfl | rfl | rfl | rfl | rfl | rfl | rfl | rfl | rfl | rfl | rfl | rfl | rfl | rfl | rfl | rfl
    all_goals first | exact h20 | exact h21 | exact h22 | exact h24 | exact at_ _ (by omega)
/-- An entry that is zero: the witness's. -/
def zeroE : Value := .agg (entry zeroV 0 0 0 false)
def zeroED {H : Type} : DataW H := .agg [.lit (.int .i64 0), .lit (.string []), .agg [.lit (.int .i64 0), .lit (.int .i64 0), .lit (.int .i64 0), .lit (.int .i64 0), .lit (.int .i64 0), .lit (.int .i64 0), .lit (.int .i64 0), .lit (.int .i64 0), .lit (.int .i64 0), .lit (.int .i64 0), .lit (.int .i64 0), .lit (.int .i64 0), .lit (.int .i64 0), .lit (.int .i64 0), .lit (.bool false), .lit (.int .i64 0), .lit (.string []), .lit (.string []), .lit (.int .i64 0), .lit (.int .i64 0), .lit (.bool false)], .nil, .lit (.int .i64 0), .lit (.int .i64 0), .lit (.int .i64 0), .lit (.bool false), .lit (.string []), .lit (.string []), .lit (.int .i64 0), .lit (.int .i64 0), .nil]
end Go.Proofs.YtodlkjdmhfcpkaaDoor
