/-
  NARROWER THAN 'FOR EVERY INPUT', by the rows' own cells (each row's printed sentence says how): CalendarDates: laid · CalendarSteps: laid · CalendarMonths: laid · CalendarBack: laid · CalendarDecides: laid · CalendarNext: laid · CalendarStricter: laid.
  DERIVED. THE GIVEN ROWS OF THIS SEAT. 7 by the template 'for every input the law returns true; each argument reads behind the call as it read before'; 0 by the template 'total and deterministic' (their statements: YtodlkjdmhfcpkaaDoorTotals.lean).
  GIVEN WITH THE SEED: the statements are not yours to turn. If you find one false, say at which input.
  Laid BY PROGRAM, IN A SANDBOX (cutbox-rows.mjs): the forced cells as the released guide's own fill.sh prints them over the translation 3800e7290443f62d… (all of the seat's roots in one cut). By AI agents, Wed Nov 11 2026. No macro, syntax, notation, axiom, sorry.
-/
import Derived.Test.YtodlkjdmhfcpkaaDoorChecked
import GoSem.Claim
import GoSem.ClaimJoined
import GoSem.ClaimMapViews
import Derived.JoinedTies
import Derived.KernelRfl
namespace Go.Proofs.YtodlkjdmhfcpkaaDoor
/- THE CELL 'sum', in the pinned program and in every row, IS THE sha256 OF THE DUMP (.gsa) THAT YtodlkjdmhfcpkaaDoorProg.lean LOADS. Nothing in Lean hashes anything: it is a label: what it is worth is what the hold of that sum in a sandbox is worth. -/
noncomputable def Tryd.pinned : Pinned := { name := "ytodlkjdmhfcpkaadoor", sum := "3800e7290443f62da3dbe5e1151d37f469b1bae7a7d0a9b6d6ab4883b8fabe1f", checked := Tryd.checked }
namespace Rows
def none {H : Type} : Left H := { results := [], args := [] }

/- WHAT THE LISTED PACKAGE-LEVEL VARIABLES READ AS WHEN THE CALL BEGINS. Each datum BY PROGRAM (the guide's laid-datum.mjs) off the statement by which the dump's own 'gosem.cut.vars' lays the variable. In a bare row this is a premise. The card (YtodlkjdmhfcpkaaDoorCards.lean) ties it to the program's text. -/
def laid_math_bits_deBruijn32tab {H : Type} : DataW H := .agg [.lit (.int .u8 0), .lit (.int .u8 1), .lit (.int .u8 28), .lit (.int .u8 2), .lit (.int .u8 29), .lit (.int .u8 14), .lit (.int .u8 24), .lit (.int .u8 3), .lit (.int .u8 30), .lit (.int .u8 22), .lit (.int .u8 20), .lit (.int .u8 15), .lit (.int .u8 25), .lit (.int .u8 17), .lit (.int .u8 4), .lit (.int .u8 8), .lit (.int .u8 31), .lit (.int .u8 27), .lit (.int .u8 13), .lit (.int .u8 23), .lit (.int .u8 21), .lit (.int .u8 19), .lit (.int .u8 16), .lit (.int .u8 7), .lit (.int .u8 26), .lit (.int .u8 12), .lit (.int .u8 18), .lit (.int .u8 6), .lit (.int .u8 11), .lit (.int .u8 5), .lit (.int .u8 10), .lit (.int .u8 9)]
def laid_math_bits_deBruijn64tab {H : Type} : DataW H := .agg [.lit (.int .u8 0), .lit (.int .u8 1), .lit (.int .u8 56), .lit (.int .u8 2), .lit (.int .u8 57), .lit (.int .u8 49), .lit (.int .u8 28), .lit (.int .u8 3), .lit (.int .u8 61), .lit (.int .u8 58), .lit (.int .u8 42), .lit (.int .u8 50), .lit (.int .u8 38), .lit (.int .u8 29), .lit (.int .u8 17), .lit (.int .u8 4), .lit (.int .u8 62), .lit (.int .u8 47), .lit (.int .u8 59), .lit (.int .u8 36), .lit (.int .u8 45), .lit (.int .u8 43), .lit (.int .u8 51), .lit (.int .u8 22), .lit (.int .u8 53), .lit (.int .u8 39), .lit (.int .u8 33), .lit (.int .u8 30), .lit (.int .u8 24), .lit (.int .u8 18), .lit (.int .u8 12), .lit (.int .u8 5), .lit (.int .u8 63), .lit (.int .u8 55), .lit (.int .u8 48), .lit (.int .u8 27), .lit (.int .u8 60), .lit (.int .u8 41), .lit (.int .u8 37), .lit (.int .u8 16), .lit (.int .u8 46), .lit (.int .u8 35), .lit (.int .u8 44), .lit (.int .u8 21), .lit (.int .u8 52), .lit (.int .u8 32), .lit (.int .u8 23), .lit (.int .u8 11), .lit (.int .u8 54), .lit (.int .u8 26), .lit (.int .u8 40), .lit (.int .u8 15), .lit (.int .u8 34), .lit (.int .u8 20), .lit (.int .u8 31), .lit (.int .u8 10), .lit (.int .u8 25), .lit (.int .u8 14), .lit (.int .u8 19), .lit (.int .u8 9), .lit (.int .u8 13), .lit (.int .u8 8), .lit (.int .u8 7), .lit (.int .u8 6)]
def laid_internal_strconv_uint64pow10 {H : Type} : DataW H := .agg [.lit (.int .u64 1), .lit (.int .u64 10), .lit (.int .u64 100), .lit (.int .u64 1000), .lit (.int .u64 10000), .lit (.int .u64 100000), .lit (.int .u64 1000000), .lit (.int .u64 10000000), .lit (.int .u64 100000000), .lit (.int .u64 1000000000), .lit (.int .u64 10000000000), .lit (.int .u64 100000000000), .lit (.int .u64 1000000000000), .lit (.int .u64 10000000000000), .lit (.int .u64 100000000000000), .lit (.int .u64 1000000000000000), .lit (.int .u64 10000000000000000), .lit (.int .u64 100000000000000000), .lit (.int .u64 1000000000000000000), .lit (.int .u64 10000000000000000000)]

/-- 'dasdlaw32.CalendarDates': WHATEVER THE INPUT: true; the input reads as it did. -/
def calendarDatesSpec : ChangeSpec := { name := "calendarDates", fn := fun _ => fun
  | [d1, d2, d3, d4, d5] => { results := [.lit (.bool true)], args := [d1, d2, d3, d4, d5] }
  | _ => none }
def calendarDatesRow : OpenClaim := { program := "ytodlkjdmhfcpkaadoor", sum := "3800e7290443f62da3dbe5e1151d37f469b1bae7a7d0a9b6d6ab4883b8fabe1f", func := "dasd/dasdlaw32.CalendarDates", spec := "calendarDates", unfollowed := true, recurses := true, named := ["internal/strconv.uint64pow10", "math/bits.deBruijn32tab", "math/bits.deBruijn64tab"], apart := false, laid := [("math/bits.deBruijn32tab", laid_math_bits_deBruijn32tab), ("math/bits.deBruijn64tab", laid_math_bits_deBruijn64tab), ("internal/strconv.uint64pow10", laid_internal_strconv_uint64pow10)] }
def CalendarDatesSaid : Prop := calendarDatesRow.holds Tryd.pinned (OpenSpec.ofChange calendarDatesSpec)

/-- ITS FALSE NEIGHBOUR: 'it returns false'. Refute it at one input. -/
def calendarDatesWrong : ChangeSpec := { name := "calendarDates", fn := fun _ => fun
  | [d1, d2, d3, d4, d5] => { results := [.lit (.bool false)], args := [d1, d2, d3, d4, d5] }
  | _ => none }
def CalendarDatesWrongFalsely : Prop := calendarDatesRow.holds Tryd.pinned (OpenSpec.ofChange calendarDatesWrong)

/-- 'dasdlaw32.CalendarSteps': WHATEVER THE INPUT: true; the input reads as it did. -/
def calendarStepsSpec : ChangeSpec := { name := "calendarSteps", fn := fun _ => fun
  | [d1, d2] => { results := [.lit (.bool true)], args := [d1, d2] }
  | _ => none }
def calendarStepsRow : OpenClaim := { program := "ytodlkjdmhfcpkaadoor", sum := "3800e7290443f62da3dbe5e1151d37f469b1bae7a7d0a9b6d6ab4883b8fabe1f", func := "dasd/dasdlaw32.CalendarSteps", spec := "calendarSteps", unfollowed := true, recurses := true, named := ["internal/strconv.uint64pow10", "math/bits.deBruijn32tab", "math/bits.deBruijn64tab"], apart := false, laid := [("math/bits.deBruijn32tab", laid_math_bits_deBruijn32tab), ("math/bits.deBruijn64tab", laid_math_bits_deBruijn64tab), ("internal/strconv.uint64pow10", laid_internal_strconv_uint64pow10)] }
def CalendarStepsSaid : Prop := calendarStepsRow.holds Tryd.pinned (OpenSpec.ofChange calendarStepsSpec)

/-- ITS FALSE NEIGHBOUR: 'it returns false'. Refute it at one input. -/
def calendarStepsWrong : ChangeSpec := { name := "calendarSteps", fn := fun _ => fun
  | [d1, d2] => { results := [.lit (.bool false)], args := [d1, d2] }
  | _ => none }
def CalendarStepsWrongFalsely : Prop := calendarStepsRow.holds Tryd.pinned (OpenSpec.ofChange calendarStepsWrong)

/-- 'dasdlaw32.CalendarMonths': WHATEVER THE INPUT: true; the input reads as it did. -/
def calendarMonthsSpec : ChangeSpec := { name := "calendarMonths", fn := fun _ => fun
  | [d1, d2] => { results := [.lit (.bool true)], args := [d1, d2] }
  | _ => none }
def calendarMonthsRow : OpenClaim := { program := "ytodlkjdmhfcpkaadoor", sum := "3800e7290443f62da3dbe5e1151d37f469b1bae7a7d0a9b6d6ab4883b8fabe1f", func := "dasd/dasdlaw32.CalendarMonths", spec := "calendarMonths", unfollowed := true, recurses := true, named := ["internal/strconv.uint64pow10", "math/bits.deBruijn32tab", "math/bits.deBruijn64tab"], apart := false, laid := [("math/bits.deBruijn32tab", laid_math_bits_deBruijn32tab), ("math/bits.deBruijn64tab", laid_math_bits_deBruijn64tab), ("internal/strconv.uint64pow10", laid_internal_strconv_uint64pow10)] }
def CalendarMonthsSaid : Prop := calendarMonthsRow.holds Tryd.pinned (OpenSpec.ofChange calendarMonthsSpec)

/-- ITS FALSE NEIGHBOUR: 'it returns false'. Refute it at one input. -/
def calendarMonthsWrong : ChangeSpec := { name := "calendarMonths", fn := fun _ => fun
  | [d1, d2] => { results := [.lit (.bool false)], args := [d1, d2] }
  | _ => none }
def CalendarMonthsWrongFalsely : Prop := calendarMonthsRow.holds Tryd.pinned (OpenSpec.ofChange calendarMonthsWrong)

/-- 'dasdlaw32.CalendarBack': WHATEVER THE INPUT: true; the input reads as it did. -/
def calendarBackSpec : ChangeSpec := { name := "calendarBack", fn := fun _ => fun
  | [d1, d2] => { results := [.lit (.bool true)], args := [d1, d2] }
  | _ => none }
def calendarBackRow : OpenClaim := { program := "ytodlkjdmhfcpkaadoor", sum := "3800e7290443f62da3dbe5e1151d37f469b1bae7a7d0a9b6d6ab4883b8fabe1f", func := "dasd/dasdlaw32.CalendarBack", spec := "calendarBack", unfollowed := true, recurses := true, named := ["internal/strconv.uint64pow10", "math/bits.deBruijn32tab", "math/bits.deBruijn64tab"], apart := false, laid := [("math/bits.deBruijn32tab", laid_math_bits_deBruijn32tab), ("math/bits.deBruijn64tab", laid_math_bits_deBruijn64tab), ("internal/strconv.uint64pow10", laid_internal_strconv_uint64pow10)] }
def CalendarBackSaid : Prop := calendarBackRow.holds Tryd.pinned (OpenSpec.ofChange calendarBackSpec)

/-- ITS FALSE NEIGHBOUR: 'it returns false'. Refute it at one input. -/
def calendarBackWrong : ChangeSpec := { name := "calendarBack", fn := fun _ => fun
  | [d1, d2] => { results := [.lit (.bool false)], args := [d1, d2] }
  | _ => none }
def CalendarBackWrongFalsely : Prop := calendarBackRow.holds Tryd.pinned (OpenSpec.ofChange calendarBackWrong)

/-- 'dasdlaw32.CalendarDecides': WHATEVER THE INPUT: true; the input reads as it did. -/
def calendarDecidesSpec : ChangeSpec := { name := "calendarDecides", fn := fun _ => fun
  | [d1, d2, d3] => { results := [.lit (.bool true)], args := [d1, d2, d3] }
  | _ => none }
def calendarDecidesRow : OpenClaim := { program := "ytodlkjdmhfcpkaadoor", sum := "3800e7290443f62da3dbe5e1151d37f469b1bae7a7d0a9b6d6ab4883b8fabe1f", func := "dasd/dasdlaw32.CalendarDecides", spec := "calendarDecides", unfollowed := true, recurses := true, named := ["internal/strconv.uint64pow10", "math/bits.deBruijn32tab", "math/bits.deBruijn64tab"], apart := false, laid := [("math/bits.deBruijn32tab", laid_math_bits_deBruijn32tab), ("math/bits.deBruijn64tab", laid_math_bits_deBruijn64tab), ("internal/strconv.uint64pow10", laid_internal_strconv_uint64pow10)] }
def CalendarDecidesSaid : Prop := calendarDecidesRow.holds Tryd.pinned (OpenSpec.ofChange calendarDecidesSpec)

/-- ITS FALSE NEIGHBOUR: 'it returns false'. Refute it at one input. -/
def calendarDecidesWrong : ChangeSpec := { name := "calendarDecides", fn := fun _ => fun
  | [d1, d2, d3] => { results := [.lit (.bool false)], args := [d1, d2, d3] }
  | _ => none }
def CalendarDecidesWrongFalsely : Prop := calendarDecidesRow.holds Tryd.pinned (OpenSpec.ofChange calendarDecidesWrong)

/-- 'dasdlaw32.CalendarNext': WHATEVER THE INPUT: true; the input reads as it did. -/
def calendarNextSpec : ChangeSpec := { name := "calendarNext", fn := fun _ => fun
  | [d1, d2, d3] => { results := [.lit (.bool true)], args := [d1, d2, d3] }
  | _ => none }
def calendarNextRow : OpenClaim := { program := "ytodlkjdmhfcpkaadoor", sum := "3800e7290443f62da3dbe5e1151d37f469b1bae7a7d0a9b6d6ab4883b8fabe1f", func := "dasd/dasdlaw32.CalendarNext", spec := "calendarNext", unfollowed := true, recurses := true, named := ["internal/strconv.uint64pow10", "math/bits.deBruijn32tab", "math/bits.deBruijn64tab"], apart := false, laid := [("math/bits.deBruijn32tab", laid_math_bits_deBruijn32tab), ("math/bits.deBruijn64tab", laid_math_bits_deBruijn64tab), ("internal/strconv.uint64pow10", laid_internal_strconv_uint64pow10)] }
def CalendarNextSaid : Prop := calendarNextRow.holds Tryd.pinned (OpenSpec.ofChange calendarNextSpec)

/-- ITS FALSE NEIGHBOUR: 'it returns false'. Refute it at one input. -/
def calendarNextWrong : ChangeSpec := { name := "calendarNext", fn := fun _ => fun
  | [d1, d2, d3] => { results := [.lit (.bool false)], args := [d1, d2, d3] }
  | _ => none }
def CalendarNextWrongFalsely : Prop := calendarNextRow.holds Tryd.pinned (OpenSpec.ofChange calendarNextWrong)

/-- 'dasdlaw32.CalendarStricter': WHATEVER THE INPUT: true; the input reads as it did. -/
def calendarStricterSpec : ChangeSpec := { name := "calendarStricter", fn := fun _ => fun
  | [d1, d2, d3, d4, d5] => { results := [.lit (.bool true)], args := [d1, d2, d3, d4, d5] }
  | _ => none }
def calendarStricterRow : OpenClaim := { program := "ytodlkjdmhfcpkaadoor", sum := "3800e7290443f62da3dbe5e1151d37f469b1bae7a7d0a9b6d6ab4883b8fabe1f", func := "dasd/dasdlaw32.CalendarStricter", spec := "calendarStricter", unfollowed := true, recurses := true, named := ["internal/strconv.uint64pow10", "math/bits.deBruijn32tab", "math/bits.deBruijn64tab"], apart := false, laid := [("math/bits.deBruijn32tab", laid_math_bits_deBruijn32tab), ("math/bits.deBruijn64tab", laid_math_bits_deBruijn64tab), ("internal/strconv.uint64pow10", laid_internal_strconv_uint64pow10)] }
def CalendarStricterSaid : Prop := calendarStricterRow.holds Tryd.pinned (OpenSpec.ofChange calendarStricterSpec)

/-- ITS FALSE NEIGHBOUR: 'it returns false'. Refute it at one input. -/
def calendarStricterWrong : ChangeSpec := { name := "calendarStricter", fn := fun _ => fun
  | [d1, d2, d3, d4, d5] => { results := [.lit (.bool false)], args := [d1, d2, d3, d4, d5] }
  | _ => none }
def CalendarStricterWrongFalsely : Prop := calendarStricterRow.holds Tryd.pinned (OpenSpec.ofChange calendarStricterWrong)

/- THE SECOND FORM. 'bulk': how many values and letters a reading holds, each counted each time it is reached (what is shared counts as often as it is met; a slice's spare places count too). A statement '..UptoSaid' is the law's where the arguments, and the package variables that the reading takes, are together of bulk at most 1048576: NARROWER than '..Said'. Prove '..Said' where nothing that the law and all that it calls make is longer than what came in: it says more and counts as full. Else prove '..UptoSaid'. A law counts once. -/
mutual
def uptoBulk {H : Type} : DataW H → Nat
  | .lit (.string bytes) => bytes.length + 1
  | .lit _ => 1
  | .nil => 1
  | .ptr d => uptoBulk d + 1
  | .slice elems spare => uptoBulkAll elems + uptoBulkAll spare + 1
  | .agg parts => uptoBulkAll parts + 1
  | .iface _ d => uptoBulk d + 1
  | .map entries => uptoBulkEntries entries + 1
  | .held _ => 1
def uptoBulkAll {H : Type} : List (DataW H) → Nat
  | [] => 0
  | d :: r => uptoBulk d + uptoBulkAll r
def uptoBulkEntries {H : Type} : List (Lit × DataW H) → Nat
  | [] => 0
  | x :: r => uptoBulkEntry x + uptoBulkEntries r
def uptoBulkEntry {H : Type} : Lit × DataW H → Nat
  | (.string bytes, d) => bytes.length + uptoBulk d + 1
  | (_, d) => uptoBulk d + 1
 end
def uptoSmall : (H : Type) → List (DataW H) → Bool := fun _ ds => decide (uptoBulkAll ds ≤ 1048576)
def OpenSpec.upto (s : _root_.Go.ChangeSpec) : _root_.Go.OpenSpec := { _root_.Go.OpenSpec.ofChange s with cond := some uptoSmall }

/-- 'dasdlaw32.CalendarDates', WHERE WHAT IT READS IS OF BULK AT MOST 1048576: true; the input reads as it did. -/
def calendarDatesUptoRow : OpenClaim := { program := "ytodlkjdmhfcpkaadoor", sum := "3800e7290443f62da3dbe5e1151d37f469b1bae7a7d0a9b6d6ab4883b8fabe1f", func := "dasd/dasdlaw32.CalendarDates", spec := "calendarDates", unfollowed := true, recurses := true, named := ["internal/strconv.uint64pow10", "math/bits.deBruijn32tab", "math/bits.deBruijn64tab"], apart := false, laid := [("math/bits.deBruijn32tab", laid_math_bits_deBruijn32tab), ("math/bits.deBruijn64tab", laid_math_bits_deBruijn64tab), ("internal/strconv.uint64pow10", laid_internal_strconv_uint64pow10)], narrowed := true }
def CalendarDatesUptoSaid : Prop := calendarDatesUptoRow.holds Tryd.pinned (OpenSpec.upto calendarDatesSpec)

/-- 'dasdlaw32.CalendarSteps', WHERE WHAT IT READS IS OF BULK AT MOST 1048576: true; the input reads as it did. -/
def calendarStepsUptoRow : OpenClaim := { program := "ytodlkjdmhfcpkaadoor", sum := "3800e7290443f62da3dbe5e1151d37f469b1bae7a7d0a9b6d6ab4883b8fabe1f", func := "dasd/dasdlaw32.CalendarSteps", spec := "calendarSteps", unfollowed := true, recurses := true, named := ["internal/strconv.uint64pow10", "math/bits.deBruijn32tab", "math/bits.deBruijn64tab"], apart := false, laid := [("math/bits.deBruijn32tab", laid_math_bits_deBruijn32tab), ("math/bits.deBruijn64tab", laid_math_bits_deBruijn64tab), ("internal/strconv.uint64pow10", laid_internal_strconv_uint64pow10)], narrowed := true }
def CalendarStepsUptoSaid : Prop := calendarStepsUptoRow.holds Tryd.pinned (OpenSpec.upto calendarStepsSpec)

/-- 'dasdlaw32.CalendarMonths', WHERE WHAT IT READS IS OF BULK AT MOST 1048576: true; the input reads as it did. -/
def calendarMonthsUptoRow : OpenClaim := { program := "ytodlkjdmhfcpkaadoor", sum := "3800e7290443f62da3dbe5e1151d37f469b1bae7a7d0a9b6d6ab4883b8fabe1f", func := "dasd/dasdlaw32.CalendarMonths", spec := "calendarMonths", unfollowed := true, recurses := true, named := ["internal/strconv.uint64pow10", "math/bits.deBruijn32tab", "math/bits.deBruijn64tab"], apart := false, laid := [("math/bits.deBruijn32tab", laid_math_bits_deBruijn32tab), ("math/bits.deBruijn64tab", laid_math_bits_deBruijn64tab), ("internal/strconv.uint64pow10", laid_internal_strconv_uint64pow10)], narrowed := true }
def CalendarMonthsUptoSaid : Prop := calendarMonthsUptoRow.holds Tryd.pinned (OpenSpec.upto calendarMonthsSpec)

/-- 'dasdlaw32.CalendarBack', WHERE WHAT IT READS IS OF BULK AT MOST 1048576: true; the input reads as it did. -/
def calendarBackUptoRow : OpenClaim := { program := "ytodlkjdmhfcpkaadoor", sum := "3800e7290443f62da3dbe5e1151d37f469b1bae7a7d0a9b6d6ab4883b8fabe1f", func := "dasd/dasdlaw32.CalendarBack", spec := "calendarBack", unfollowed := true, recurses := true, named := ["internal/strconv.uint64pow10", "math/bits.deBruijn32tab", "math/bits.deBruijn64tab"], apart := false, laid := [("math/bits.deBruijn32tab", laid_math_bits_deBruijn32tab), ("math/bits.deBruijn64tab", laid_math_bits_deBruijn64tab), ("internal/strconv.uint64pow10", laid_internal_strconv_uint64pow10)], narrowed := true }
def CalendarBackUptoSaid : Prop := calendarBackUptoRow.holds Tryd.pinned (OpenSpec.upto calendarBackSpec)

/-- 'dasdlaw32.CalendarDecides', WHERE WHAT IT READS IS OF BULK AT MOST 1048576: true; the input reads as it did. -/
def calendarDecidesUptoRow : OpenClaim := { program := "ytodlkjdmhfcpkaadoor", sum := "3800e7290443f62da3dbe5e1151d37f469b1bae7a7d0a9b6d6ab4883b8fabe1f", func := "dasd/dasdlaw32.CalendarDecides", spec := "calendarDecides", unfollowed := true, recurses := true, named := ["internal/strconv.uint64pow10", "math/bits.deBruijn32tab", "math/bits.deBruijn64tab"], apart := false, laid := [("math/bits.deBruijn32tab", laid_math_bits_deBruijn32tab), ("math/bits.deBruijn64tab", laid_math_bits_deBruijn64tab), ("internal/strconv.uint64pow10", laid_internal_strconv_uint64pow10)], narrowed := true }
def CalendarDecidesUptoSaid : Prop := calendarDecidesUptoRow.holds Tryd.pinned (OpenSpec.upto calendarDecidesSpec)

/-- 'dasdlaw32.CalendarNext', WHERE WHAT IT READS IS OF BULK AT MOST 1048576: true; the input reads as it did. -/
def calendarNextUptoRow : OpenClaim := { program := "ytodlkjdmhfcpkaadoor", sum := "3800e7290443f62da3dbe5e1151d37f469b1bae7a7d0a9b6d6ab4883b8fabe1f", func := "dasd/dasdlaw32.CalendarNext", spec := "calendarNext", unfollowed := true, recurses := true, named := ["internal/strconv.uint64pow10", "math/bits.deBruijn32tab", "math/bits.deBruijn64tab"], apart := false, laid := [("math/bits.deBruijn32tab", laid_math_bits_deBruijn32tab), ("math/bits.deBruijn64tab", laid_math_bits_deBruijn64tab), ("internal/strconv.uint64pow10", laid_internal_strconv_uint64pow10)], narrowed := true }
def CalendarNextUptoSaid : Prop := calendarNextUptoRow.holds Tryd.pinned (OpenSpec.upto calendarNextSpec)

/-- 'dasdlaw32.CalendarStricter', WHERE WHAT IT READS IS OF BULK AT MOST 1048576: true; the input reads as it did. -/
def calendarStricterUptoRow : OpenClaim := { program := "ytodlkjdmhfcpkaadoor", sum := "3800e7290443f62da3dbe5e1151d37f469b1bae7a7d0a9b6d6ab4883b8fabe1f", func := "dasd/dasdlaw32.CalendarStricter", spec := "calendarStricter", unfollowed := true, recurses := true, named := ["internal/strconv.uint64pow10", "math/bits.deBruijn32tab", "math/bits.deBruijn64tab"], apart := false, laid := [("math/bits.deBruijn32tab", laid_math_bits_deBruijn32tab), ("math/bits.deBruijn64tab", laid_math_bits_deBruijn64tab), ("internal/strconv.uint64pow10", laid_internal_strconv_uint64pow10)], narrowed := true }
def CalendarStricterUptoSaid : Prop := calendarStricterUptoRow.holds Tryd.pinned (OpenSpec.upto calendarStricterSpec)

end Rows
end Go.Proofs.YtodlkjdmhfcpkaaDoor
