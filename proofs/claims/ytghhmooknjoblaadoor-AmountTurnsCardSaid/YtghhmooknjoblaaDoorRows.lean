/-
  NARROWER THAN 'FOR EVERY INPUT', by the rows' own cells (each row's printed sentence says how): AmountFits: laid · AmountTurns: laid · AmountTexts: laid · AmountJoins: laid · AmountCompatible: laid · AmountCovers: laid · AmountLattice: laid · AmountShrinks: laid · AmountRoom: laid.
  DERIVED. THE GIVEN ROWS OF THIS SEAT. 9 by the template 'for every input the law returns true; each argument reads behind the call as it read before'; 0 by the template 'total and deterministic' (their statements: YtghhmooknjoblaaDoorTotals.lean).
  GIVEN WITH THE SEED: the statements are not yours to turn. If you find one false, say at which input.
  Laid BY PROGRAM, IN A SANDBOX (cutbox-rows.mjs): the forced cells as the released guide's own fill.sh prints them over the translation a02cae77a2b95b81… (all of the seat's roots in one cut). By AI agents, Wed Nov 11 2026. No macro, syntax, notation, axiom, sorry.
-/
import Derived.Test.YtghhmooknjoblaaDoorChecked
import GoSem.Claim
import GoSem.ClaimJoined
import GoSem.ClaimMapViews
import Derived.JoinedTies
import Derived.KernelRfl
namespace Go.Proofs.YtghhmooknjoblaaDoor
/- THE CELL 'sum', in the pinned program and in every row, IS THE sha256 OF THE DUMP (.gsa) THAT YtghhmooknjoblaaDoorProg.lean LOADS. Nothing in Lean hashes anything: it is a label: what it is worth is what the hold of that sum in a sandbox is worth. -/
noncomputable def Tryd.pinned : Pinned := { name := "ytghhmooknjoblaadoor", sum := "a02cae77a2b95b81f328a21ef0a1e2e8f4eb4c6fab8874809f99447aae56ded6", checked := Tryd.checked }
namespace Rows
def none {H : Type} : Left H := { results := [], args := [] }

/- WHAT THE LISTED PACKAGE-LEVEL VARIABLES READ AS WHEN THE CALL BEGINS. Each datum BY PROGRAM (the guide's laid-datum.mjs) off the statement by which the dump's own 'gosem.cut.vars' lays the variable. In a bare row this is a premise. The card (YtghhmooknjoblaaDoorCards.lean) ties it to the program's text. -/
def laid_clusterlocks_mode_together {H : Type} : DataW H := .agg [.agg [.lit (.bool true), .lit (.bool true), .lit (.bool true), .lit (.bool true), .lit (.bool false)], .agg [.lit (.bool true), .lit (.bool true), .lit (.bool false), .lit (.bool false), .lit (.bool false)], .agg [.lit (.bool true), .lit (.bool false), .lit (.bool true), .lit (.bool false), .lit (.bool false)], .agg [.lit (.bool true), .lit (.bool false), .lit (.bool false), .lit (.bool false), .lit (.bool false)], .agg [.lit (.bool false), .lit (.bool false), .lit (.bool false), .lit (.bool false), .lit (.bool false)]]
def laid_math_bits_deBruijn32tab {H : Type} : DataW H := .agg [.lit (.int .u8 0), .lit (.int .u8 1), .lit (.int .u8 28), .lit (.int .u8 2), .lit (.int .u8 29), .lit (.int .u8 14), .lit (.int .u8 24), .lit (.int .u8 3), .lit (.int .u8 30), .lit (.int .u8 22), .lit (.int .u8 20), .lit (.int .u8 15), .lit (.int .u8 25), .lit (.int .u8 17), .lit (.int .u8 4), .lit (.int .u8 8), .lit (.int .u8 31), .lit (.int .u8 27), .lit (.int .u8 13), .lit (.int .u8 23), .lit (.int .u8 21), .lit (.int .u8 19), .lit (.int .u8 16), .lit (.int .u8 7), .lit (.int .u8 26), .lit (.int .u8 12), .lit (.int .u8 18), .lit (.int .u8 6), .lit (.int .u8 11), .lit (.int .u8 5), .lit (.int .u8 10), .lit (.int .u8 9)]
def laid_math_bits_deBruijn64tab {H : Type} : DataW H := .agg [.lit (.int .u8 0), .lit (.int .u8 1), .lit (.int .u8 56), .lit (.int .u8 2), .lit (.int .u8 57), .lit (.int .u8 49), .lit (.int .u8 28), .lit (.int .u8 3), .lit (.int .u8 61), .lit (.int .u8 58), .lit (.int .u8 42), .lit (.int .u8 50), .lit (.int .u8 38), .lit (.int .u8 29), .lit (.int .u8 17), .lit (.int .u8 4), .lit (.int .u8 62), .lit (.int .u8 47), .lit (.int .u8 59), .lit (.int .u8 36), .lit (.int .u8 45), .lit (.int .u8 43), .lit (.int .u8 51), .lit (.int .u8 22), .lit (.int .u8 53), .lit (.int .u8 39), .lit (.int .u8 33), .lit (.int .u8 30), .lit (.int .u8 24), .lit (.int .u8 18), .lit (.int .u8 12), .lit (.int .u8 5), .lit (.int .u8 63), .lit (.int .u8 55), .lit (.int .u8 48), .lit (.int .u8 27), .lit (.int .u8 60), .lit (.int .u8 41), .lit (.int .u8 37), .lit (.int .u8 16), .lit (.int .u8 46), .lit (.int .u8 35), .lit (.int .u8 44), .lit (.int .u8 21), .lit (.int .u8 52), .lit (.int .u8 32), .lit (.int .u8 23), .lit (.int .u8 11), .lit (.int .u8 54), .lit (.int .u8 26), .lit (.int .u8 40), .lit (.int .u8 15), .lit (.int .u8 34), .lit (.int .u8 20), .lit (.int .u8 31), .lit (.int .u8 10), .lit (.int .u8 25), .lit (.int .u8 14), .lit (.int .u8 19), .lit (.int .u8 9), .lit (.int .u8 13), .lit (.int .u8 8), .lit (.int .u8 7), .lit (.int .u8 6)]
def laid_internal_strconv_uint64pow10 {H : Type} : DataW H := .agg [.lit (.int .u64 1), .lit (.int .u64 10), .lit (.int .u64 100), .lit (.int .u64 1000), .lit (.int .u64 10000), .lit (.int .u64 100000), .lit (.int .u64 1000000), .lit (.int .u64 10000000), .lit (.int .u64 100000000), .lit (.int .u64 1000000000), .lit (.int .u64 10000000000), .lit (.int .u64 100000000000), .lit (.int .u64 1000000000000), .lit (.int .u64 10000000000000), .lit (.int .u64 100000000000000), .lit (.int .u64 1000000000000000), .lit (.int .u64 10000000000000000), .lit (.int .u64 100000000000000000), .lit (.int .u64 1000000000000000000), .lit (.int .u64 10000000000000000000)]

/-- 'clusterlockslaw04.AmountFits': WHATEVER THE INPUT: true; the input reads as it did. -/
def amountFitsSpec : ChangeSpec := { name := "amountFits", fn := fun _ => fun
  | [d1, d2] => { results := [.lit (.bool true)], args := [d1, d2] }
  | _ => none }
def amountFitsRow : OpenClaim := { program := "ytghhmooknjoblaadoor", sum := "a02cae77a2b95b81f328a21ef0a1e2e8f4eb4c6fab8874809f99447aae56ded6", func := "clusterlocks/clusterlockslaw04.AmountFits", spec := "amountFits", named := ["clusterlocks/mode.together", "internal/strconv.uint64pow10", "math/bits.deBruijn32tab", "math/bits.deBruijn64tab"], apart := false, laid := [("clusterlocks/mode.together", laid_clusterlocks_mode_together), ("math/bits.deBruijn32tab", laid_math_bits_deBruijn32tab), ("math/bits.deBruijn64tab", laid_math_bits_deBruijn64tab), ("internal/strconv.uint64pow10", laid_internal_strconv_uint64pow10)] }
def AmountFitsSaid : Prop := amountFitsRow.holds Tryd.pinned (OpenSpec.ofChange amountFitsSpec)

/-- ITS FALSE NEIGHBOUR: 'it returns false'. Refute it at one input. -/
def amountFitsWrong : ChangeSpec := { name := "amountFits", fn := fun _ => fun
  | [d1, d2] => { results := [.lit (.bool false)], args := [d1, d2] }
  | _ => none }
def AmountFitsWrongFalsely : Prop := amountFitsRow.holds Tryd.pinned (OpenSpec.ofChange amountFitsWrong)

/-- 'clusterlockslaw04.AmountTurns': WHATEVER THE INPUT: true; the input reads as it did. -/
def amountTurnsSpec : ChangeSpec := { name := "amountTurns", fn := fun _ => fun
  | [d1, d2, d3] => { results := [.lit (.bool true)], args := [d1, d2, d3] }
  | _ => none }
def amountTurnsRow : OpenClaim := { program := "ytghhmooknjoblaadoor", sum := "a02cae77a2b95b81f328a21ef0a1e2e8f4eb4c6fab8874809f99447aae56ded6", func := "clusterlocks/clusterlockslaw04.AmountTurns", spec := "amountTurns", named := ["clusterlocks/mode.together", "internal/strconv.uint64pow10", "math/bits.deBruijn32tab", "math/bits.deBruijn64tab"], apart := false, laid := [("clusterlocks/mode.together", laid_clusterlocks_mode_together), ("math/bits.deBruijn32tab", laid_math_bits_deBruijn32tab), ("math/bits.deBruijn64tab", laid_math_bits_deBruijn64tab), ("internal/strconv.uint64pow10", laid_internal_strconv_uint64pow10)] }
def AmountTurnsSaid : Prop := amountTurnsRow.holds Tryd.pinned (OpenSpec.ofChange amountTurnsSpec)

/-- ITS FALSE NEIGHBOUR: 'it returns false'. Refute it at one input. -/
def amountTurnsWrong : ChangeSpec := { name := "amountTurns", fn := fun _ => fun
  | [d1, d2, d3] => { results := [.lit (.bool false)], args := [d1, d2, d3] }
  | _ => none }
def AmountTurnsWrongFalsely : Prop := amountTurnsRow.holds Tryd.pinned (OpenSpec.ofChange amountTurnsWrong)

/-- 'clusterlockslaw04.AmountTexts': WHATEVER THE INPUT: true; the input reads as it did. -/
def amountTextsSpec : ChangeSpec := { name := "amountTexts", fn := fun _ => fun
  | [d] => { results := [.lit (.bool true)], args := [d] }
  | _ => none }
def amountTextsRow : OpenClaim := { program := "ytghhmooknjoblaadoor", sum := "a02cae77a2b95b81f328a21ef0a1e2e8f4eb4c6fab8874809f99447aae56ded6", func := "clusterlocks/clusterlockslaw04.AmountTexts", spec := "amountTexts", recurses := true, named := ["clusterlocks/mode.together", "internal/strconv.uint64pow10", "math/bits.deBruijn32tab", "math/bits.deBruijn64tab"], apart := false, laid := [("clusterlocks/mode.together", laid_clusterlocks_mode_together), ("math/bits.deBruijn32tab", laid_math_bits_deBruijn32tab), ("math/bits.deBruijn64tab", laid_math_bits_deBruijn64tab), ("internal/strconv.uint64pow10", laid_internal_strconv_uint64pow10)] }
def AmountTextsSaid : Prop := amountTextsRow.holds Tryd.pinned (OpenSpec.ofChange amountTextsSpec)

/-- ITS FALSE NEIGHBOUR: 'it returns false'. Refute it at one input. -/
def amountTextsWrong : ChangeSpec := { name := "amountTexts", fn := fun _ => fun
  | [d] => { results := [.lit (.bool false)], args := [d] }
  | _ => none }
def AmountTextsWrongFalsely : Prop := amountTextsRow.holds Tryd.pinned (OpenSpec.ofChange amountTextsWrong)

/-- 'clusterlockslaw04.AmountJoins': WHATEVER THE INPUT: true; the input reads as it did. -/
def amountJoinsSpec : ChangeSpec := { name := "amountJoins", fn := fun _ => fun
  | [d1, d2, d3, d4] => { results := [.lit (.bool true)], args := [d1, d2, d3, d4] }
  | _ => none }
def amountJoinsRow : OpenClaim := { program := "ytghhmooknjoblaadoor", sum := "a02cae77a2b95b81f328a21ef0a1e2e8f4eb4c6fab8874809f99447aae56ded6", func := "clusterlocks/clusterlockslaw04.AmountJoins", spec := "amountJoins", named := ["clusterlocks/mode.together", "internal/strconv.uint64pow10", "math/bits.deBruijn32tab", "math/bits.deBruijn64tab"], apart := false, laid := [("clusterlocks/mode.together", laid_clusterlocks_mode_together), ("math/bits.deBruijn32tab", laid_math_bits_deBruijn32tab), ("math/bits.deBruijn64tab", laid_math_bits_deBruijn64tab), ("internal/strconv.uint64pow10", laid_internal_strconv_uint64pow10)] }
def AmountJoinsSaid : Prop := amountJoinsRow.holds Tryd.pinned (OpenSpec.ofChange amountJoinsSpec)

/-- ITS FALSE NEIGHBOUR: 'it returns false'. Refute it at one input. -/
def amountJoinsWrong : ChangeSpec := { name := "amountJoins", fn := fun _ => fun
  | [d1, d2, d3, d4] => { results := [.lit (.bool false)], args := [d1, d2, d3, d4] }
  | _ => none }
def AmountJoinsWrongFalsely : Prop := amountJoinsRow.holds Tryd.pinned (OpenSpec.ofChange amountJoinsWrong)

/-- 'clusterlockslaw04.AmountCompatible': WHATEVER THE INPUT: true; the input reads as it did. -/
def amountCompatibleSpec : ChangeSpec := { name := "amountCompatible", fn := fun _ => fun
  | [d1, d2, d3] => { results := [.lit (.bool true)], args := [d1, d2, d3] }
  | _ => none }
def amountCompatibleRow : OpenClaim := { program := "ytghhmooknjoblaadoor", sum := "a02cae77a2b95b81f328a21ef0a1e2e8f4eb4c6fab8874809f99447aae56ded6", func := "clusterlocks/clusterlockslaw04.AmountCompatible", spec := "amountCompatible", named := ["clusterlocks/mode.together", "internal/strconv.uint64pow10", "math/bits.deBruijn32tab", "math/bits.deBruijn64tab"], apart := false, laid := [("clusterlocks/mode.together", laid_clusterlocks_mode_together), ("math/bits.deBruijn32tab", laid_math_bits_deBruijn32tab), ("math/bits.deBruijn64tab", laid_math_bits_deBruijn64tab), ("internal/strconv.uint64pow10", laid_internal_strconv_uint64pow10)] }
def AmountCompatibleSaid : Prop := amountCompatibleRow.holds Tryd.pinned (OpenSpec.ofChange amountCompatibleSpec)

/-- ITS FALSE NEIGHBOUR: 'it returns false'. Refute it at one input. -/
def amountCompatibleWrong : ChangeSpec := { name := "amountCompatible", fn := fun _ => fun
  | [d1, d2, d3] => { results := [.lit (.bool false)], args := [d1, d2, d3] }
  | _ => none }
def AmountCompatibleWrongFalsely : Prop := amountCompatibleRow.holds Tryd.pinned (OpenSpec.ofChange amountCompatibleWrong)

/-- 'clusterlockslaw04.AmountCovers': WHATEVER THE INPUT: true; the input reads as it did. -/
def amountCoversSpec : ChangeSpec := { name := "amountCovers", fn := fun _ => fun
  | [d1, d2, d3] => { results := [.lit (.bool true)], args := [d1, d2, d3] }
  | _ => none }
def amountCoversRow : OpenClaim := { program := "ytghhmooknjoblaadoor", sum := "a02cae77a2b95b81f328a21ef0a1e2e8f4eb4c6fab8874809f99447aae56ded6", func := "clusterlocks/clusterlockslaw04.AmountCovers", spec := "amountCovers", named := ["clusterlocks/mode.together", "internal/strconv.uint64pow10", "math/bits.deBruijn32tab", "math/bits.deBruijn64tab"], apart := false, laid := [("clusterlocks/mode.together", laid_clusterlocks_mode_together), ("math/bits.deBruijn32tab", laid_math_bits_deBruijn32tab), ("math/bits.deBruijn64tab", laid_math_bits_deBruijn64tab), ("internal/strconv.uint64pow10", laid_internal_strconv_uint64pow10)] }
def AmountCoversSaid : Prop := amountCoversRow.holds Tryd.pinned (OpenSpec.ofChange amountCoversSpec)

/-- ITS FALSE NEIGHBOUR: 'it returns false'. Refute it at one input. -/
def amountCoversWrong : ChangeSpec := { name := "amountCovers", fn := fun _ => fun
  | [d1, d2, d3] => { results := [.lit (.bool false)], args := [d1, d2, d3] }
  | _ => none }
def AmountCoversWrongFalsely : Prop := amountCoversRow.holds Tryd.pinned (OpenSpec.ofChange amountCoversWrong)

/-- 'clusterlockslaw04.AmountLattice': WHATEVER THE INPUT: true; the input reads as it did. -/
def amountLatticeSpec : ChangeSpec := { name := "amountLattice", fn := fun _ => fun
  | [d1, d2, d3, d4] => { results := [.lit (.bool true)], args := [d1, d2, d3, d4] }
  | _ => none }
def amountLatticeRow : OpenClaim := { program := "ytghhmooknjoblaadoor", sum := "a02cae77a2b95b81f328a21ef0a1e2e8f4eb4c6fab8874809f99447aae56ded6", func := "clusterlocks/clusterlockslaw04.AmountLattice", spec := "amountLattice", named := ["clusterlocks/mode.together", "internal/strconv.uint64pow10", "math/bits.deBruijn32tab", "math/bits.deBruijn64tab"], apart := false, laid := [("clusterlocks/mode.together", laid_clusterlocks_mode_together), ("math/bits.deBruijn32tab", laid_math_bits_deBruijn32tab), ("math/bits.deBruijn64tab", laid_math_bits_deBruijn64tab), ("internal/strconv.uint64pow10", laid_internal_strconv_uint64pow10)] }
def AmountLatticeSaid : Prop := amountLatticeRow.holds Tryd.pinned (OpenSpec.ofChange amountLatticeSpec)

/-- ITS FALSE NEIGHBOUR: 'it returns false'. Refute it at one input. -/
def amountLatticeWrong : ChangeSpec := { name := "amountLattice", fn := fun _ => fun
  | [d1, d2, d3, d4] => { results := [.lit (.bool false)], args := [d1, d2, d3, d4] }
  | _ => none }
def AmountLatticeWrongFalsely : Prop := amountLatticeRow.holds Tryd.pinned (OpenSpec.ofChange amountLatticeWrong)

/-- 'clusterlockslaw04.AmountShrinks': WHATEVER THE INPUT: true; the input reads as it did. -/
def amountShrinksSpec : ChangeSpec := { name := "amountShrinks", fn := fun _ => fun
  | [d1, d2, d3, d4] => { results := [.lit (.bool true)], args := [d1, d2, d3, d4] }
  | _ => none }
def amountShrinksRow : OpenClaim := { program := "ytghhmooknjoblaadoor", sum := "a02cae77a2b95b81f328a21ef0a1e2e8f4eb4c6fab8874809f99447aae56ded6", func := "clusterlocks/clusterlockslaw04.AmountShrinks", spec := "amountShrinks", named := ["clusterlocks/mode.together", "internal/strconv.uint64pow10", "math/bits.deBruijn32tab", "math/bits.deBruijn64tab"], apart := false, laid := [("clusterlocks/mode.together", laid_clusterlocks_mode_together), ("math/bits.deBruijn32tab", laid_math_bits_deBruijn32tab), ("math/bits.deBruijn64tab", laid_math_bits_deBruijn64tab), ("internal/strconv.uint64pow10", laid_internal_strconv_uint64pow10)] }
def AmountShrinksSaid : Prop := amountShrinksRow.holds Tryd.pinned (OpenSpec.ofChange amountShrinksSpec)

/-- ITS FALSE NEIGHBOUR: 'it returns false'. Refute it at one input. -/
def amountShrinksWrong : ChangeSpec := { name := "amountShrinks", fn := fun _ => fun
  | [d1, d2, d3, d4] => { results := [.lit (.bool false)], args := [d1, d2, d3, d4] }
  | _ => none }
def AmountShrinksWrongFalsely : Prop := amountShrinksRow.holds Tryd.pinned (OpenSpec.ofChange amountShrinksWrong)

/-- 'clusterlockslaw04.AmountRoom': WHATEVER THE INPUT: true; the input reads as it did. -/
def amountRoomSpec : ChangeSpec := { name := "amountRoom", fn := fun _ => fun
  | [d1, d2, d3, d4] => { results := [.lit (.bool true)], args := [d1, d2, d3, d4] }
  | _ => none }
def amountRoomRow : OpenClaim := { program := "ytghhmooknjoblaadoor", sum := "a02cae77a2b95b81f328a21ef0a1e2e8f4eb4c6fab8874809f99447aae56ded6", func := "clusterlocks/clusterlockslaw04.AmountRoom", spec := "amountRoom", named := ["clusterlocks/mode.together", "internal/strconv.uint64pow10", "math/bits.deBruijn32tab", "math/bits.deBruijn64tab"], apart := false, laid := [("clusterlocks/mode.together", laid_clusterlocks_mode_together), ("math/bits.deBruijn32tab", laid_math_bits_deBruijn32tab), ("math/bits.deBruijn64tab", laid_math_bits_deBruijn64tab), ("internal/strconv.uint64pow10", laid_internal_strconv_uint64pow10)] }
def AmountRoomSaid : Prop := amountRoomRow.holds Tryd.pinned (OpenSpec.ofChange amountRoomSpec)

/-- ITS FALSE NEIGHBOUR: 'it returns false'. Refute it at one input. -/
def amountRoomWrong : ChangeSpec := { name := "amountRoom", fn := fun _ => fun
  | [d1, d2, d3, d4] => { results := [.lit (.bool false)], args := [d1, d2, d3, d4] }
  | _ => none }
def AmountRoomWrongFalsely : Prop := amountRoomRow.holds Tryd.pinned (OpenSpec.ofChange amountRoomWrong)

/- THE SECOND FORM. 'bulk': how many values and letters a reading holds, each counted each time it is reached (what is shared counts as often as it is met; a slice's spare places count too). A statement '..UptoSaid' is the law's where the arguments, and the package variables that the reading takes, are together of bulk at most 1048576: NARROWER than '..Said'. Prove '..Said' where nothing that the law and all that it calls make is longer than what came in: it says more and counts as full. Else prove '..UptoSaid'. A law counts once. -/
mutual
def uptoBulk {H : Type} : DataW H → Nat
  | .lit (.string bytes) => bytes.length + 1
  | .lit _ => 1
  | .nil => 1
  | .ptr d => uptoBulk d + 1
  | .slice elems spare => uptoBulkAll elems + uptoBulkAll spare + 1
  | .agg parts => uptoBulkAll parts + 1
  | .iface _ d => uptoBulk d + 1
  | .map entries => uptoBulkEntries entries + 1
  | .held _ => 1
def uptoBulkAll {H : Type} : List (DataW H) → Nat
  | [] => 0
  | d :: r => uptoBulk d + uptoBulkAll r
def uptoBulkEntries {H : Type} : List (Lit × DataW H) → Nat
  | [] => 0
  | x :: r => uptoBulkEntry x + uptoBulkEntries r
def uptoBulkEntry {H : Type} : Lit × DataW H → Nat
  | (.string bytes, d) => bytes.length + uptoBulk d + 1
  | (_, d) => uptoBulk d + 1
 end
def uptoSmall : (H : Type) → List (DataW H) → Bool := fun _ ds => decide (uptoBulkAll ds ≤ 1048576)
def OpenSpec.upto (s : _root_.Go.ChangeSpec) : _root_.Go.OpenSpec := { _root_.Go.OpenSpec.ofChange s with cond := some uptoSmall }

/-- 'clusterlockslaw04.AmountFits', WHERE WHAT IT READS IS OF BULK AT MOST 1048576: true; the input reads as it did. -/
def amountFitsUptoRow : OpenClaim := { program := "ytghhmooknjoblaadoor", sum := "a02cae77a2b95b81f328a21ef0a1e2e8f4eb4c6fab8874809f99447aae56ded6", func := "clusterlocks/clusterlockslaw04.AmountFits", spec := "amountFits", named := ["clusterlocks/mode.together", "internal/strconv.uint64pow10", "math/bits.deBruijn32tab", "math/bits.deBruijn64tab"], apart := false, laid := [("clusterlocks/mode.together", laid_clusterlocks_mode_together), ("math/bits.deBruijn32tab", laid_math_bits_deBruijn32tab), ("math/bits.deBruijn64tab", laid_math_bits_deBruijn64tab), ("internal/strconv.uint64pow10", laid_internal_strconv_uint64pow10)], narrowed := true }
def AmountFitsUptoSaid : Prop := amountFitsUptoRow.holds Tryd.pinned (OpenSpec.upto amountFitsSpec)

/-- 'clusterlockslaw04.AmountTurns', WHERE WHAT IT READS IS OF BULK AT MOST 1048576: true; the input reads as it did. -/
def amountTurnsUptoRow : OpenClaim := { program := "ytghhmooknjoblaadoor", sum := "a02cae77a2b95b81f328a21ef0a1e2e8f4eb4c6fab8874809f99447aae56ded6", func := "clusterlocks/clusterlockslaw04.AmountTurns", spec := "amountTurns", named := ["clusterlocks/mode.together", "internal/strconv.uint64pow10", "math/bits.deBruijn32tab", "math/bits.deBruijn64tab"], apart := false, laid := [("clusterlocks/mode.together", laid_clusterlocks_mode_together), ("math/bits.deBruijn32tab", laid_math_bits_deBruijn32tab), ("math/bits.deBruijn64tab", laid_math_bits_deBruijn64tab), ("internal/strconv.uint64pow10", laid_internal_strconv_uint64pow10)], narrowed := true }
def AmountTurnsUptoSaid : Prop := amountTurnsUptoRow.holds Tryd.pinned (OpenSpec.upto amountTurnsSpec)

/-- 'clusterlockslaw04.AmountTexts', WHERE WHAT IT READS IS OF BULK AT MOST 1048576: true; the input reads as it did. -/
def amountTextsUptoRow : OpenClaim := { program := "ytghhmooknjoblaadoor", sum := "a02cae77a2b95b81f328a21ef0a1e2e8f4eb4c6fab8874809f99447aae56ded6", func := "clusterlocks/clusterlockslaw04.AmountTexts", spec := "amountTexts", recurses := true, named := ["clusterlocks/mode.together", "internal/strconv.uint64pow10", "math/bits.deBruijn32tab", "math/bits.deBruijn64tab"], apart := false, laid := [("clusterlocks/mode.together", laid_clusterlocks_mode_together), ("math/bits.deBruijn32tab", laid_math_bits_deBruijn32tab), ("math/bits.deBruijn64tab", laid_math_bits_deBruijn64tab), ("internal/strconv.uint64pow10", laid_internal_strconv_uint64pow10)], narrowed := true }
def AmountTextsUptoSaid : Prop := amountTextsUptoRow.holds Tryd.pinned (OpenSpec.upto amountTextsSpec)

/-- 'clusterlockslaw04.AmountJoins', WHERE WHAT IT READS IS OF BULK AT MOST 1048576: true; the input reads as it did. -/
def amountJoinsUptoRow : OpenClaim := { program := "ytghhmooknjoblaadoor", sum := "a02cae77a2b95b81f328a21ef0a1e2e8f4eb4c6fab8874809f99447aae56ded6", func := "clusterlocks/clusterlockslaw04.AmountJoins", spec := "amountJoins", named := ["clusterlocks/mode.together", "internal/strconv.uint64pow10", "math/bits.deBruijn32tab", "math/bits.deBruijn64tab"], apart := false, laid := [("clusterlocks/mode.together", laid_clusterlocks_mode_together), ("math/bits.deBruijn32tab", laid_math_bits_deBruijn32tab), ("math/bits.deBruijn64tab", laid_math_bits_deBruijn64tab), ("internal/strconv.uint64pow10", laid_internal_strconv_uint64pow10)], narrowed := true }
def AmountJoinsUptoSaid : Prop := amountJoinsUptoRow.holds Tryd.pinned (OpenSpec.upto amountJoinsSpec)

/-- 'clusterlockslaw04.AmountCompatible', WHERE WHAT IT READS IS OF BULK AT MOST 1048576: true; the input reads as it did. -/
def amountCompatibleUptoRow : OpenClaim := { program := "ytghhmooknjoblaadoor", sum := "a02cae77a2b95b81f328a21ef0a1e2e8f4eb4c6fab8874809f99447aae56ded6", func := "clusterlocks/clusterlockslaw04.AmountCompatible", spec := "amountCompatible", named := ["clusterlocks/mode.together", "internal/strconv.uint64pow10", "math/bits.deBruijn32tab", "math/bits.deBruijn64tab"], apart := false, laid := [("clusterlocks/mode.together", laid_clusterlocks_mode_together), ("math/bits.deBruijn32tab", laid_math_bits_deBruijn32tab), ("math/bits.deBruijn64tab", laid_math_bits_deBruijn64tab), ("internal/strconv.uint64pow10", laid_internal_strconv_uint64pow10)], narrowed := true }
def AmountCompatibleUptoSaid : Prop := amountCompatibleUptoRow.holds Tryd.pinned (OpenSpec.upto amountCompatibleSpec)

/-- 'clusterlockslaw04.AmountCovers', WHERE WHAT IT READS IS OF BULK AT MOST 1048576: true; the input reads as it did. -/
def amountCoversUptoRow : OpenClaim := { program := "ytghhmooknjoblaadoor", sum := "a02cae77a2b95b81f328a21ef0a1e2e8f4eb4c6fab8874809f99447aae56ded6", func := "clusterlocks/clusterlockslaw04.AmountCovers", spec := "amountCovers", named := ["clusterlocks/mode.together", "internal/strconv.uint64pow10", "math/bits.deBruijn32tab", "math/bits.deBruijn64tab"], apart := false, laid := [("clusterlocks/mode.together", laid_clusterlocks_mode_together), ("math/bits.deBruijn32tab", laid_math_bits_deBruijn32tab), ("math/bits.deBruijn64tab", laid_math_bits_deBruijn64tab), ("internal/strconv.uint64pow10", laid_internal_strconv_uint64pow10)], narrowed := true }
def AmountCoversUptoSaid : Prop := amountCoversUptoRow.holds Tryd.pinned (OpenSpec.upto amountCoversSpec)

/-- 'clusterlockslaw04.AmountLattice', WHERE WHAT IT READS IS OF BULK AT MOST 1048576: true; the input reads as it did. -/
def amountLatticeUptoRow : OpenClaim := { program := "ytghhmooknjoblaadoor", sum := "a02cae77a2b95b81f328a21ef0a1e2e8f4eb4c6fab8874809f99447aae56ded6", func := "clusterlocks/clusterlockslaw04.AmountLattice", spec := "amountLattice", named := ["clusterlocks/mode.together", "internal/strconv.uint64pow10", "math/bits.deBruijn32tab", "math/bits.deBruijn64tab"], apart := false, laid := [("clusterlocks/mode.together", laid_clusterlocks_mode_together), ("math/bits.deBruijn32tab", laid_math_bits_deBruijn32tab), ("math/bits.deBruijn64tab", laid_math_bits_deBruijn64tab), ("internal/strconv.uint64pow10", laid_internal_strconv_uint64pow10)], narrowed := true }
def AmountLatticeUptoSaid : Prop := amountLatticeUptoRow.holds Tryd.pinned (OpenSpec.upto amountLatticeSpec)

/-- 'clusterlockslaw04.AmountShrinks', WHERE WHAT IT READS IS OF BULK AT MOST 1048576: true; the input reads as it did. -/
def amountShrinksUptoRow : OpenClaim := { program := "ytghhmooknjoblaadoor", sum := "a02cae77a2b95b81f328a21ef0a1e2e8f4eb4c6fab8874809f99447aae56ded6", func := "clusterlocks/clusterlockslaw04.AmountShrinks", spec := "amountShrinks", named := ["clusterlocks/mode.together", "internal/strconv.uint64pow10", "math/bits.deBruijn32tab", "math/bits.deBruijn64tab"], apart := false, laid := [("clusterlocks/mode.together", laid_clusterlocks_mode_together), ("math/bits.deBruijn32tab", laid_math_bits_deBruijn32tab), ("math/bits.deBruijn64tab", laid_math_bits_deBruijn64tab), ("internal/strconv.uint64pow10", laid_internal_strconv_uint64pow10)], narrowed := true }
def AmountShrinksUptoSaid : Prop := amountShrinksUptoRow.holds Tryd.pinned (OpenSpec.upto amountShrinksSpec)

/-- 'clusterlockslaw04.AmountRoom', WHERE WHAT IT READS IS OF BULK AT MOST 1048576: true; the input reads as it did. -/
def amountRoomUptoRow : OpenClaim := { program := "ytghhmooknjoblaadoor", sum := "a02cae77a2b95b81f328a21ef0a1e2e8f4eb4c6fab8874809f99447aae56ded6", func := "clusterlocks/clusterlockslaw04.AmountRoom", spec := "amountRoom", named := ["clusterlocks/mode.together", "internal/strconv.uint64pow10", "math/bits.deBruijn32tab", "math/bits.deBruijn64tab"], apart := false, laid := [("clusterlocks/mode.together", laid_clusterlocks_mode_together), ("math/bits.deBruijn32tab", laid_math_bits_deBruijn32tab), ("math/bits.deBruijn64tab", laid_math_bits_deBruijn64tab), ("internal/strconv.uint64pow10", laid_internal_strconv_uint64pow10)], narrowed := true }
def AmountRoomUptoSaid : Prop := amountRoomUptoRow.holds Tryd.pinned (OpenSpec.upto amountRoomSpec)

end Rows
end Go.Proofs.YtghhmooknjoblaaDoor
