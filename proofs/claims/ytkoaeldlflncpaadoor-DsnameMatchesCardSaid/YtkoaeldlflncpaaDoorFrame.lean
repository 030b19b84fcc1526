/-
  What the proofs of all seven rows share: what the rows' list of tables gives, and a world for the witness.
-/
import Derived.Test.YtkoaeldlflncpaaDoorCards
import Derived.Test.YtkoaeldlflncpaaDoorTie
import Derived.Test.YtkoaeldlflncpaaDoorAwake
import Derived.WalkKit
import Derived.ProofKit
import Derived.OpenShut
import Derived.Deep.DeepHandedRow
import Derived.Lib.LaidTab
namespace Go.Proofs.YtkoaeldlflncpaaDoor
open Go.ChangeShapes Go.WideShapes Go.ChangeAt Go.RowKit

theorem own : ownKnob Tryd.prog.godebug = none := by kernel_rfl
theorem gTab : Tryd.prog.globalNamed "internal/strconv.uint64pow10" = some 4 := by kernel_rfl
theorem gTabType : (Tryd.prog.globals[4]?).map (·.type) = some 120 := by kernel_rfl
theorem cells120 : Tryd.prog.cellsOf 120 = 20 := by kernel_rfl
theorem cells98 : Tryd.prog.cellsOf 98 = 1 := by kernel_rfl
/-- The list of tables, as the rows bear it. -/
def laidList : List (String × DataW Unit) := [("math/bits.deBruijn32tab", Rows.laid_math_bits_deBruijn32tab), ("math/bits.deBruijn64tab", Rows.laid_math_bits_deBruijn64tab), ("internal/strconv.uint64pow10", Rows.laid_internal_strconv_uint64pow10), ("unicode/utf8.acceptRanges", Rows.laid_unicode_utf8_acceptRanges), ("unicode/utf8.first", Rows.laid_unicode_utf8_first)]
/-- The same with the table of letters' cases. -/
def laidListC : List (String × DataW Unit) := [("math/bits.deBruijn32tab", Rows.laid_math_bits_deBruijn32tab), ("math/bits.deBruijn64tab", Rows.laid_math_bits_deBruijn64tab), ("internal/strconv.uint64pow10", Rows.laid_internal_strconv_uint64pow10), ("unicode/utf8.acceptRanges", Rows.laid_unicode_utf8_acceptRanges), ("unicode.CaseRanges", Rows.laid_unicode_CaseRanges), ("unicode/utf8.first", Rows.laid_unicode_utf8_first)]
theorem table_is : (Rows.laid_internal_strconv_uint64pow10 : DataW Unit) = Lib.tabData .u64 Lib.pow10Tab := by kernel_rfl
/-- What the rows' list gives: the table of powers of ten stands. -/
theorem tab_of_laid {W : World} (h : laidMetH Tryd.prog laidList W) : Tab W := by
  have h' : laidMet Tryd.prog laidList W := h
  obtain ⟨ps, ⟨_, _, _, _, _, q1, _, _, _, _, ⟨_, _, _, _, _, q2, _, _, _, _, ⟨g', t', cs, fuel, p, q, hg', ht', hvar, hd, _, _⟩, _⟩, _⟩, _⟩ := h'
  obtain rfl := Option.some.inj (gTab.symm.trans hg')
  obtain rfl := Option.some.inj (gTabType.symm.trans ht')
  unfold Tab Lib.TabIs
  rw [table_is] at hd
  rw [hvar, ← Lib.cells_of_tab Tryd.underlying120 Tryd.underlying98 cells98 cells120 hd]
theorem tab_of_laidC {W : World} (h : laidMetH Tryd.prog laidListC W) : Tab W := by
  have h' : laidMet Tryd.prog laidListC W := h
  obtain ⟨ps, ⟨_, _, _, _, _, q1, _, _, _, _, ⟨_, _, _, _, _, q2, _, _, _, _, ⟨g', t', cs, fuel, p, q, hg', ht', hvar, hd, _, _⟩, _⟩, _⟩, _⟩ := h'
  obtain rfl := Option.some.inj (gTab.symm.trans hg')
  obtain rfl := Option.some.inj (gTabType.symm.trans ht')
  unfold Tab Lib.TabIs
  rw [table_is] at hd
  rw [hvar, ← Lib.cells_of_tab Tryd.underlying120 Tryd.underlying98 cells98 cells120 hd]
/-- What a shaped world gives: the search's variable holds a number. -/
theorem maxLen_of_shaped {W : World} (h : W.ShapedOpen Tryd.prog) : MaxLen W := Tryd.laysM146.s1_3 W h
/-- A world for the witness: the settled one, each table holding what its initialiser lays. -/
def putTable (h : Array Obj) (g : Nat) (cs : Array Value) : Array Obj :=
  h.modify g fun
    | .cells _ t frozen => .cells cs t frozen
    | o => o
def deb32 : List Int := [0, 1, 28, 2, 29, 14, 24, 3, 30, 22, 20, 15, 25, 17, 4, 8, 31, 27, 13, 23, 21, 19, 16, 7, 26, 12, 18, 6, 11, 5, 10, 9]
def deb64 : List Int := [0, 1, 56, 2, 57, 49, 28, 3, 61, 58, 42, 50, 38, 29, 17, 4, 62, 47, 59, 36, 45, 43, 51, 22, 53, 39, 33, 30, 24, 18, 12, 5, 63, 55, 48, 27, 60, 41, 37, 16, 46, 35, 44, 21, 52, 32, 23, 11, 54, 26, 40, 15, 34, 20, 31, 10, 25, 14, 19, 9, 13, 8, 7, 6]
def accepts : List Int := [128, 191, 160, 191, 128, 159, 144, 191, 128, 143, 0, 0, 0, 0, 0, 0, 0, 0, 0, 0, 0, 0, 0, 0, 0, 0, 0, 0, 0, 0, 0, 0]
noncomputable def laidHeap (os : Os) : Array Obj :=
  putTable (putTable (putTable (putTable (putTable (World.holding Tryd.prog os ⟨#[], #[], []⟩).heap 4 ((Lib.pow10Tab.map (Value.int .u64)).toArray)) 5 ((deb32.map (Value.int .u8)).toArray)) 6 ((deb64.map (Value.int .u8)).toArray)) 3 ((accepts.map (Value.int .u8)).toArray)) 2 ((Go.Pinned.utf8FirstZ.map fun (n : Nat) => Value.int .u8 n).toArray)
noncomputable def laidWorld (os : Os) : World := { World.holding Tryd.prog os ⟨#[], #[], []⟩ with heap := laidHeap os }
theorem laidOut : laidOutB Tryd.prog = true := by kernel_rfl
/-- Behind a call that has turned nothing of what was there, the arguments read as they did. -/
theorem trodAll_below {P : Program} {H : Type} {enc : TypeId × Value → H} {W W' : World} (hl : laidOutB P = true) (hb : Below W.heap.size W W') (ts : List TypeId) :
    ∀ (vs : List Value) (ds : List (DataW H)) (ps : List MemPlace), (ts.all fun t => P.readableRec t && decide (t < P.types.size)) = true → (∀ x ∈ ps, x.block < W.heap.size) →
      DataW.TrodAll enc P W 0 (fun _ => true) true ts vs ds ps → DataW.TrodAll enc P W' 0 (fun b => decide (b < W.heap.size)) true ts vs ds ps := by
  induction ts with
  | nil =>
    intro vs ds ps _ _ h
    obtain ⟨rfl, rfl, rfl⟩ := trodAll_nil h
    exact trodAll_mk0
  | cons t ts ih =>
    intro vs ds ps ht hlt h
    simp only [List.all_cons, Bool.and_eq_true, decide_eq_true_eq] at ht
    obtain ⟨v, vs', d, ds', p, q, rfl, rfl, rfl, h0, r0⟩ := trodAll_cons h
    exact trodAll_cons_mk (Below.trod hl ht.1.1 ht.1.2 h0 hb fun x hx => hlt x (List.mem_append_left _ hx)) (ih vs' ds' q ht.2 (fun x hx => hlt x (List.mem_append_right _ hx)) r0)
/-- The end of a law's call, as the row wants it: it returned true, the arguments read as they did, and nothing that was there has turned. -/
theorem law_post {H : Type} {enc : TypeId × Value → H} {f : Func} {s : ChangeSpec} {W W' : World} {args : Array Value} {ds : List (DataW H)} {p : List MemPlace} (hr : f.resultTypes = #[4]) (hv : s.vars = [])
    (hres : (s.fn H (ds ++ [])).results = [.lit (.bool true)]) (harg : (s.fn H (ds ++ [])).args = ds) (hvar : (s.fn H (ds ++ [])).vars = [])
    (ht : (f.params.toList.all fun t => Tryd.prog.readableRec t && decide (t < Tryd.prog.types.size)) = true)
    (hW : DataW.Whole enc Tryd.prog f.params.toList s.vars false W args.toList ds [] p) (hA : DataW.TrodAll enc Tryd.prog W 0 (fun _ => true) true f.params.toList args.toList ds p) (hb : Below W.heap.size W W') :
    s.post enc Tryd.prog f false true false false W args (.bool true) W' := by
  refine ⟨ds, [], p, [], p, [], hW, ?_, ?_, ?_, World.keptBut_mono (fun x hx => ⟨hx, Or.inr (Or.inl hx)⟩) (hb.frame (· ∈ p)), fun h => by cases h⟩
  · rw [hr, hres]
    exact trodAll_cons_mk (shut_bool Tryd.underlying4 true) trodAll_mk0
  · rw [harg]
    exact trodAll_below laidOut hb _ _ _ _ ht (fun x hx => hW.lt x hx) hA
  · rw [hv, hvar]
    rfl
end Go.Proofs.YtkoaeldlflncpaaDoor
