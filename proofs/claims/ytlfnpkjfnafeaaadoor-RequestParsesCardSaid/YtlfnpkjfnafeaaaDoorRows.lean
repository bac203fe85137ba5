/-
  NARROWER THAN 'FOR EVERY INPUT', by the rows' own cells (each row's printed sentence says how): RequestValid: loops, laid · RequestParses: laid · RequestBack: loops, laid · RequestTapes: laid · RequestCanonical: laid · RequestSpaces: laid · RequestNests: laid · RequestConflicts: laid · RequestFormats: loops, laid.
  DERIVED. THE GIVEN ROWS OF THIS SEAT. 9 by the template 'for every input the law returns true; each argument reads behind the call as it read before'; 0 by the template 'total and deterministic' (their statements: YtlfnpkjfnafeaaaDoorTotals.lean).
  GIVEN WITH THE SEED: the statements are not yours to turn. If you find one false, say at which input.
  Laid BY PROGRAM, IN A SANDBOX (cutbox-rows.mjs): the forced cells as the released guide's own fill.sh prints them over the translation 89191545955f66a7… (all of the seat's roots in one cut). By AI agents, Wed Nov 11 2026. No macro, syntax, notation, axiom, sorry.
-/
import Derived.Test.YtlfnpkjfnafeaaaDoorChecked
import GoSem.Claim
import GoSem.ClaimJoined
import GoSem.ClaimMapViews
import Derived.JoinedTies
import Derived.KernelRfl
namespace Go.Proofs.YtlfnpkjfnafeaaaDoor
/- THE CELL 'sum', in the pinned program and in every row, IS THE sha256 OF THE DUMP (.gsa) THAT YtlfnpkjfnafeaaaDoorProg.lean LOADS. Nothing in Lean hashes anything: it is a label: what it is worth is what the hold of that sum in a sandbox is worth. -/
noncomputable def Tryd.pinned : Pinned := { name := "ytlfnpkjfnafeaaadoor", sum := "89191545955f66a79534918a4cbfe566991dc1cbbad0c300434a57ee7a71dc3d", checked := Tryd.checked }
namespace Rows
def none {H : Type} : Left H := { results := [], args := [] }

/- WHAT THE LISTED PACKAGE-LEVEL VARIABLES READ AS WHEN THE CALL BEGINS. Each datum BY PROGRAM (the guide's laid-datum.mjs) off the statement by which the dump's own 'gosem.cut.vars' lays the variable. In a bare row this is a premise. The card (YtlfnpkjfnafeaaaDoorCards.lean) ties it to the program's text. -/
def laid_math_bits_deBruijn32tab {H : Type} : DataW H := .agg [.lit (.int .u8 0), .lit (.int .u8 1), .lit (.int .u8 28), .lit (.int .u8 2), .lit (.int .u8 29), .lit (.int .u8 14), .lit (.int .u8 24), .lit (.int .u8 3), .lit (.int .u8 30), .lit (.int .u8 22), .lit (.int .u8 20), .lit (.int .u8 15), .lit (.int .u8 25), .lit (.int .u8 17), .lit (.int .u8 4), .lit (.int .u8 8), .lit (.int .u8 31), .lit (.int .u8 27), .lit (.int .u8 13), .lit (.int .u8 23), .lit (.int .u8 21), .lit (.int .u8 19), .lit (.int .u8 16), .lit (.int .u8 7), .lit (.int .u8 26), .lit (.int .u8 12), .lit (.int .u8 18), .lit (.int .u8 6), .lit (.int .u8 11), .lit (.int .u8 5), .lit (.int .u8 10), .lit (.int .u8 9)]
def laid_math_bits_deBruijn64tab {H : Type} : DataW H := .agg [.lit (.int .u8 0), .lit (.int .u8 1), .lit (.int .u8 56), .lit (.int .u8 2), .lit (.int .u8 57), .lit (.int .u8 49), .lit (.int .u8 28), .lit (.int .u8 3), .lit (.int .u8 61), .lit (.int .u8 58), .lit (.int .u8 42), .lit (.int .u8 50), .lit (.int .u8 38), .lit (.int .u8 29), .lit (.int .u8 17), .lit (.int .u8 4), .lit (.int .u8 62), .lit (.int .u8 47), .lit (.int .u8 59), .lit (.int .u8 36), .lit (.int .u8 45), .lit (.int .u8 43), .lit (.int .u8 51), .lit (.int .u8 22), .lit (.int .u8 53), .lit (.int .u8 39), .lit (.int .u8 33), .lit (.int .u8 30), .lit (.int .u8 24), .lit (.int .u8 18), .lit (.int .u8 12), .lit (.int .u8 5), .lit (.int .u8 63), .lit (.int .u8 55), .lit (.int .u8 48), .lit (.int .u8 27), .lit (.int .u8 60), .lit (.int .u8 41), .lit (.int .u8 37), .lit (.int .u8 16), .lit (.int .u8 46), .lit (.int .u8 35), .lit (.int .u8 44), .lit (.int .u8 21), .lit (.int .u8 52), .lit (.int .u8 32), .lit (.int .u8 23), .lit (.int .u8 11), .lit (.int .u8 54), .lit (.int .u8 26), .lit (.int .u8 40), .lit (.int .u8 15), .lit (.int .u8 34), .lit (.int .u8 20), .lit (.int .u8 31), .lit (.int .u8 10), .lit (.int .u8 25), .lit (.int .u8 14), .lit (.int .u8 19), .lit (.int .u8 9), .lit (.int .u8 13), .lit (.int .u8 8), .lit (.int .u8 7), .lit (.int .u8 6)]
def laid_internal_strconv_uint64pow10 {H : Type} : DataW H := .agg [.lit (.int .u64 1), .lit (.int .u64 10), .lit (.int .u64 100), .lit (.int .u64 1000), .lit (.int .u64 10000), .lit (.int .u64 100000), .lit (.int .u64 1000000), .lit (.int .u64 10000000), .lit (.int .u64 100000000), .lit (.int .u64 1000000000), .lit (.int .u64 10000000000), .lit (.int .u64 100000000000), .lit (.int .u64 1000000000000), .lit (.int .u64 10000000000000), .lit (.int .u64 100000000000000), .lit (.int .u64 1000000000000000), .lit (.int .u64 10000000000000000), .lit (.int .u64 100000000000000000), .lit (.int .u64 1000000000000000000), .lit (.int .u64 10000000000000000000)]

/-- 'clusterlockslaw07.RequestValid': WHATEVER THE INPUT: true; the input reads as it did. -/
def requestValidSpec : ChangeSpec := { name := "requestValid", fn := fun _ => fun
  | [d] => { results := [.lit (.bool true)], args := [d] }
  | _ => none }
def requestValidRow : OpenClaim := { program := "ytlfnpkjfnafeaaadoor", sum := "89191545955f66a79534918a4cbfe566991dc1cbbad0c300434a57ee7a71dc3d", func := "clusterlocks/clusterlockslaw07.RequestValid", spec := "requestValid", inPlace := ["internal/abi.NoEscape"], unfollowed := true, recurses := true, named := ["internal/strconv.uint64pow10", "math/bits.deBruijn32tab", "math/bits.deBruijn64tab"], loops := true, apart := false, laid := [("math/bits.deBruijn32tab", laid_math_bits_deBruijn32tab), ("math/bits.deBruijn64tab", laid_math_bits_deBruijn64tab), ("internal/strconv.uint64pow10", laid_internal_strconv_uint64pow10)] }
def RequestValidSaid : Prop := requestValidRow.holds Tryd.pinned (OpenSpec.ofChange requestValidSpec)

/-- ITS FALSE NEIGHBOUR: 'it returns false'. Refute it at one input. -/
def requestValidWrong : ChangeSpec := { name := "requestValid", fn := fun _ => fun
  | [d] => { results := [.lit (.bool false)], args := [d] }
  | _ => none }
def RequestValidWrongFalsely : Prop := requestValidRow.holds Tryd.pinned (OpenSpec.ofChange requestValidWrong)

/-- 'clusterlockslaw07.RequestParses': WHATEVER THE INPUT: true; the input reads as it did. -/
def requestParsesSpec : ChangeSpec := { name := "requestParses", fn := fun _ => fun
  | [d] => { results := [.lit (.bool true)], args := [d] }
  | _ => none }
def requestParsesRow : OpenClaim := { program := "ytlfnpkjfnafeaaadoor", sum := "89191545955f66a79534918a4cbfe566991dc1cbbad0c300434a57ee7a71dc3d", func := "clusterlocks/clusterlockslaw07.RequestParses", spec := "requestParses", inPlace := ["internal/abi.NoEscape"], unfollowed := true, recurses := true, named := ["internal/strconv.uint64pow10", "math/bits.deBruijn32tab", "math/bits.deBruijn64tab"], apart := false, laid := [("math/bits.deBruijn32tab", laid_math_bits_deBruijn32tab), ("math/bits.deBruijn64tab", laid_math_bits_deBruijn64tab), ("internal/strconv.uint64pow10", laid_internal_strconv_uint64pow10)] }
def RequestParsesSaid : Prop := requestParsesRow.holds Tryd.pinned (OpenSpec.ofChange requestParsesSpec)

/-- ITS FALSE NEIGHBOUR: 'it returns false'. Refute it at one input. -/
def requestParsesWrong : ChangeSpec := { name := "requestParses", fn := fun _ => fun
  | [d] => { results := [.lit (.bool false)], args := [d] }
  | _ => none }
def RequestParsesWrongFalsely : Prop := requestParsesRow.holds Tryd.pinned (OpenSpec.ofChange requestParsesWrong)

/-- 'clusterlockslaw07.RequestBack': WHATEVER THE INPUT: true; the input reads as it did. -/
def requestBackSpec : ChangeSpec := { name := "requestBack", fn := fun _ => fun
  | [d] => { results := [.lit (.bool true)], args := [d] }
  | _ => none }
def requestBackRow : OpenClaim := { program := "ytlfnpkjfnafeaaadoor", sum := "89191545955f66a79534918a4cbfe566991dc1cbbad0c300434a57ee7a71dc3d", func := "clusterlocks/clusterlockslaw07.RequestBack", spec := "requestBack", inPlace := ["internal/abi.NoEscape"], unfollowed := true, recurses := true, named := ["internal/strconv.uint64pow10", "math/bits.deBruijn32tab", "math/bits.deBruijn64tab"], loops := true, apart := false, laid := [("math/bits.deBruijn32tab", laid_math_bits_deBruijn32tab), ("math/bits.deBruijn64tab", laid_math_bits_deBruijn64tab), ("internal/strconv.uint64pow10", laid_internal_strconv_uint64pow10)] }
def RequestBackSaid : Prop := requestBackRow.holds Tryd.pinned (OpenSpec.ofChange requestBackSpec)

/-- ITS FALSE NEIGHBOUR: 'it returns false'. Refute it at one input. -/
def requestBackWrong : ChangeSpec := { name := "requestBack", fn := fun _ => fun
  | [d] => { results := [.lit (.bool false)], args := [d] }
  | _ => none }
def RequestBackWrongFalsely : Prop := requestBackRow.holds Tryd.pinned (OpenSpec.ofChange requestBackWrong)

/-- 'clusterlockslaw07.RequestTapes': WHATEVER THE INPUT: true; the input reads as it did. -/
def requestTapesSpec : ChangeSpec := { name := "requestTapes", fn := fun _ => fun
  | [d] => { results := [.lit (.bool true)], args := [d] }
  | _ => none }
def requestTapesRow : OpenClaim := { program := "ytlfnpkjfnafeaaadoor", sum := "89191545955f66a79534918a4cbfe566991dc1cbbad0c300434a57ee7a71dc3d", func := "clusterlocks/clusterlockslaw07.RequestTapes", spec := "requestTapes", inPlace := ["internal/abi.NoEscape"], unfollowed := true, recurses := true, named := ["internal/strconv.uint64pow10", "math/bits.deBruijn32tab", "math/bits.deBruijn64tab"], apart := false, laid := [("math/bits.deBruijn32tab", laid_math_bits_deBruijn32tab), ("math/bits.deBruijn64tab", laid_math_bits_deBruijn64tab), ("internal/strconv.uint64pow10", laid_internal_strconv_uint64pow10)] }
def RequestTapesSaid : Prop := requestTapesRow.holds Tryd.pinned (OpenSpec.ofChange requestTapesSpec)

/-- ITS FALSE NEIGHBOUR: 'it returns false'. Refute it at one input. -/
def requestTapesWrong : ChangeSpec := { name := "requestTapes", fn := fun _ => fun
  | [d] => { results := [.lit (.bool false)], args := [d] }
  | _ => none }
def RequestTapesWrongFalsely : Prop := requestTapesRow.holds Tryd.pinned (OpenSpec.ofChange requestTapesWrong)

/-- 'clusterlockslaw07.RequestCanonical': WHATEVER THE INPUT: true; the input reads as it did. -/
def requestCanonicalSpec : ChangeSpec := { name := "requestCanonical", fn := fun _ => fun
  | [d] => { results := [.lit (.bool true)], args := [d] }
  | _ => none }
def requestCanonicalRow : OpenClaim := { program := "ytlfnpkjfnafeaaadoor", sum := "89191545955f66a79534918a4cbfe566991dc1cbbad0c300434a57ee7a71dc3d", func := "clusterlocks/clusterlockslaw07.RequestCanonical", spec := "requestCanonical", inPlace := ["internal/abi.NoEscape"], unfollowed := true, recurses := true, named := ["internal/strconv.uint64pow10", "math/bits.deBruijn32tab", "math/bits.deBruijn64tab"], apart := false, laid := [("math/bits.deBruijn32tab", laid_math_bits_deBruijn32tab), ("math/bits.deBruijn64tab", laid_math_bits_deBruijn64tab), ("internal/strconv.uint64pow10", laid_internal_strconv_uint64pow10)] }
def RequestCanonicalSaid : Prop := requestCanonicalRow.holds Tryd.pinned (OpenSpec.ofChange requestCanonicalSpec)

/-- ITS FALSE NEIGHBOUR: 'it returns false'. Refute it at one input. -/
def requestCanonicalWrong : ChangeSpec := { name := "requestCanonical", fn := fun _ => fun
  | [d] => { results := [.lit (.bool false)], args := [d] }
  | _ => none }
def RequestCanonicalWrongFalsely : Prop := requestCanonicalRow.holds Tryd.pinned (OpenSpec.ofChange requestCanonicalWrong)

/-- 'clusterlockslaw07.RequestSpaces': WHATEVER THE INPUT: true; the input reads as it did. -/
def requestSpacesSpec : ChangeSpec := { name := "requestSpaces", fn := fun _ => fun
  | [d1, d2] => { results := [.lit (.bool true)], args := [d1, d2] }
  | _ => none }
def requestSpacesRow : OpenClaim := { program := "ytlfnpkjfnafeaaadoor", sum := "89191545955f66a79534918a4cbfe566991dc1cbbad0c300434a57ee7a71dc3d", func := "clusterlocks/clusterlockslaw07.RequestSpaces", spec := "requestSpaces", inPlace := ["internal/abi.NoEscape"], unfollowed := true, recurses := true, named := ["internal/strconv.uint64pow10", "math/bits.deBruijn32tab", "math/bits.deBruijn64tab"], apart := false, laid := [("math/bits.deBruijn32tab", laid_math_bits_deBruijn32tab), ("math/bits.deBruijn64tab", laid_math_bits_deBruijn64tab), ("internal/strconv.uint64pow10", laid_internal_strconv_uint64pow10)] }
def RequestSpacesSaid : Prop := requestSpacesRow.holds Tryd.pinned (OpenSpec.ofChange requestSpacesSpec)

/-- ITS FALSE NEIGHBOUR: 'it returns false'. Refute it at one input. -/
def requestSpacesWrong : ChangeSpec := { name := "requestSpaces", fn := fun _ => fun
  | [d1, d2] => { results := [.lit (.bool false)], args := [d1, d2] }
  | _ => none }
def RequestSpacesWrongFalsely : Prop := requestSpacesRow.holds Tryd.pinned (OpenSpec.ofChange requestSpacesWrong)

/-- 'clusterlockslaw07.RequestNests': WHATEVER THE INPUT: true; the input reads as it did. -/
def requestNestsSpec : ChangeSpec := { name := "requestNests", fn := fun _ => fun
  | [d] => { results := [.lit (.bool true)], args := [d] }
  | _ => none }
def requestNestsRow : OpenClaim := { program := "ytlfnpkjfnafeaaadoor", sum := "89191545955f66a79534918a4cbfe566991dc1cbbad0c300434a57ee7a71dc3d", func := "clusterlocks/clusterlockslaw07.RequestNests", spec := "requestNests", inPlace := ["internal/abi.NoEscape"], unfollowed := true, recurses := true, named := ["internal/strconv.uint64pow10", "math/bits.deBruijn32tab", "math/bits.deBruijn64tab"], apart := false, laid := [("math/bits.deBruijn32tab", laid_math_bits_deBruijn32tab), ("math/bits.deBruijn64tab", laid_math_bits_deBruijn64tab), ("internal/strconv.uint64pow10", laid_internal_strconv_uint64pow10)] }
def RequestNestsSaid : Prop := requestNestsRow.holds Tryd.pinned (OpenSpec.ofChange requestNestsSpec)

/-- ITS FALSE NEIGHBOUR: 'it returns false'. Refute it at one input. -/
def requestNestsWrong : ChangeSpec := { name := "requestNests", fn := fun _ => fun
  | [d] => { results := [.lit (.bool false)], args := [d] }
  | _ => none }
def RequestNestsWrongFalsely : Prop := requestNestsRow.holds Tryd.pinned (OpenSpec.ofChange requestNestsWrong)

/-- 'clusterlockslaw07.RequestConflicts': WHATEVER THE INPUT: true; the input reads as it did. -/
def requestConflictsSpec : ChangeSpec := { name := "requestConflicts", fn := fun _ => fun
  | [d1, d2] => { results := [.lit (.bool true)], args := [d1, d2] }
  | _ => none }
def requestConflictsRow : OpenClaim := { program := "ytlfnpkjfnafeaaadoor", sum := "89191545955f66a79534918a4cbfe566991dc1cbbad0c300434a57ee7a71dc3d", func := "clusterlocks/clusterlockslaw07.RequestConflicts", spec := "requestConflicts", inPlace := ["internal/abi.NoEscape"], unfollowed := true, recurses := true, named := ["internal/strconv.uint64pow10", "math/bits.deBruijn32tab", "math/bits.deBruijn64tab"], apart := false, laid := [("math/bits.deBruijn32tab", laid_math_bits_deBruijn32tab), ("math/bits.deBruijn64tab", laid_math_bits_deBruijn64tab), ("internal/strconv.uint64pow10", laid_internal_strconv_uint64pow10)] }
def RequestConflictsSaid : Prop := requestConflictsRow.holds Tryd.pinned (OpenSpec.ofChange requestConflictsSpec)

/-- ITS FALSE NEIGHBOUR: 'it returns false'. Refute it at one input. -/
def requestConflictsWrong : ChangeSpec := { name := "requestConflicts", fn := fun _ => fun
  | [d1, d2] => { results := [.lit (.bool false)], args := [d1, d2] }
  | _ => none }
def RequestConflictsWrongFalsely : Prop := requestConflictsRow.holds Tryd.pinned (OpenSpec.ofChange requestConflictsWrong)

/-- 'clusterlockslaw07.RequestFormats': WHATEVER THE INPUT: true; the input reads as it did. -/
def requestFormatsSpec : ChangeSpec := { name := "requestFormats", fn := fun _ => fun
  | [d] => { results := [.lit (.bool true)], args := [d] }
  | _ => none }
def requestFormatsRow : OpenClaim := { program := "ytlfnpkjfnafeaaadoor", sum := "89191545955f66a79534918a4cbfe566991dc1cbbad0c300434a57ee7a71dc3d", func := "clusterlocks/clusterlockslaw07.RequestFormats", spec := "requestFormats", inPlace := ["internal/abi.NoEscape"], unfollowed := true, recurses := true, named := ["internal/strconv.uint64pow10", "math/bits.deBruijn32tab", "math/bits.deBruijn64tab"], loops := true, apart := false, laid := [("math/bits.deBruijn32tab", laid_math_bits_deBruijn32tab), ("math/bits.deBruijn64tab", laid_math_bits_deBruijn64tab), ("internal/strconv.uint64pow10", laid_internal_strconv_uint64pow10)] }
def RequestFormatsSaid : Prop := requestFormatsRow.holds Tryd.pinned (OpenSpec.ofChange requestFormatsSpec)

/-- ITS FALSE NEIGHBOUR: 'it returns false'. Refute it at one input. -/
def requestFormatsWrong : ChangeSpec := { name := "requestFormats", fn := fun _ => fun
  | [d] => { results := [.lit (.bool false)], args := [d] }
  | _ => none }
def RequestFormatsWrongFalsely : Prop := requestFormatsRow.holds Tryd.pinned (OpenSpec.ofChange requestFormatsWrong)

/- THE SECOND FORM. 'bulk': how many values and letters a reading holds, each counted each time it is reached (what is shared counts as often as it is met; a slice's spare places count too). A statement '..UptoSaid' is the law's where the arguments, and the package variables that the reading takes, are together of bulk at most 1048576: NARROWER than '..Said'. Prove '..Said' where nothing that the law and all that it calls make is longer than what came in: it says more and counts as full. Else prove '..UptoSaid'. A law counts once. -/
mutual
def uptoBulk {H : Type} : DataW H → Nat
  | .lit (.string bytes) => bytes.length + 1
  | .lit _ => 1
  | .nil => 1
  | .ptr d => uptoBulk d + 1
  | .slice elems spare => uptoBulkAll elems + uptoBulkAll spare + 1
  | .agg parts => uptoBulkAll parts + 1
  | .iface _ d => uptoBulk d + 1
  | .map entries => uptoBulkEntries entries + 1
  | .held _ => 1
def uptoBulkAll {H : Type} : List (DataW H) → Nat
  | [] => 0
  | d :: r => uptoBulk d + uptoBulkAll r
def uptoBulkEntries {H : Type} : List (Lit × DataW H) → Nat
  | [] => 0
  | x :: r => uptoBulkEntry x + uptoBulkEntries r
def uptoBulkEntry {H : Type} : Lit × DataW H → Nat
  | (.string bytes, d) => bytes.length + uptoBulk d + 1
  | (_, d) => uptoBulk d + 1
 end
def uptoSmall : (H : Type) → List (DataW H) → Bool := fun _ ds => decide (uptoBulkAll ds ≤ 1048576)
def OpenSpec.upto (s : _root_.Go.ChangeSpec) : _root_.Go.OpenSpec := { _root_.Go.OpenSpec.ofChange s with cond := some uptoSmall }

/-- 'clusterlockslaw07.RequestValid', WHERE WHAT IT READS IS OF BULK AT MOST 1048576: true; the input reads as it did. -/
def requestValidUptoRow : OpenClaim := { program := "ytlfnpkjfnafeaaadoor", sum := "89191545955f66a79534918a4cbfe566991dc1cbbad0c300434a57ee7a71dc3d", func := "clusterlocks/clusterlockslaw07.RequestValid", spec := "requestValid", inPlace := ["internal/abi.NoEscape"], unfollowed := true, recurses := true, named := ["internal/strconv.uint64pow10", "math/bits.deBruijn32tab", "math/bits.deBruijn64tab"], loops := true, apart := false, laid := [("math/bits.deBruijn32tab", laid_math_bits_deBruijn32tab), ("math/bits.deBruijn64tab", laid_math_bits_deBruijn64tab), ("internal/strconv.uint64pow10", laid_internal_strconv_uint64pow10)], narrowed := true }
def RequestValidUptoSaid : Prop := requestValidUptoRow.holds Tryd.pinned (OpenSpec.upto requestValidSpec)

/-- 'clusterlockslaw07.RequestParses', WHERE WHAT IT READS IS OF BULK AT MOST 1048576: true; the input reads as it did. -/
def requestParsesUptoRow : OpenClaim := { program := "ytlfnpkjfnafeaaadoor", sum := "89191545955f66a79534918a4cbfe566991dc1cbbad0c300434a57ee7a71dc3d", func := "clusterlocks/clusterlockslaw07.RequestParses", spec := "requestParses", inPlace := ["internal/abi.NoEscape"], unfollowed := true, recurses := true, named := ["internal/strconv.uint64pow10", "math/bits.deBruijn32tab", "math/bits.deBruijn64tab"], apart := false, laid := [("math/bits.deBruijn32tab", laid_math_bits_deBruijn32tab), ("math/bits.deBruijn64tab", laid_math_bits_deBruijn64tab), ("internal/strconv.uint64pow10", laid_internal_strconv_uint64pow10)], narrowed := true }
def RequestParsesUptoSaid : Prop := requestParsesUptoRow.holds Tryd.pinned (OpenSpec.upto requestParsesSpec)

/-- 'clusterlockslaw07.RequestBack', WHERE WHAT IT READS IS OF BULK AT MOST 1048576: true; the input reads as it did. -/
def requestBackUptoRow : OpenClaim := { program := "ytlfnpkjfnafeaaadoor", sum := "89191545955f66a79534918a4cbfe566991dc1cbbad0c300434a57ee7a71dc3d", func := "clusterlocks/clusterlockslaw07.RequestBack", spec := "requestBack", inPlace := ["internal/abi.NoEscape"], unfollowed := true, recurses := true, named := ["internal/strconv.uint64pow10", "math/bits.deBruijn32tab", "math/bits.deBruijn64tab"], loops := true, apart := false, laid := [("math/bits.deBruijn32tab", laid_math_bits_deBruijn32tab), ("math/bits.deBruijn64tab", laid_math_bits_deBruijn64tab), ("internal/strconv.uint64pow10", laid_internal_strconv_uint64pow10)], narrowed := true }
def RequestBackUptoSaid : Prop := requestBackUptoRow.holds Tryd.pinned (OpenSpec.upto requestBackSpec)

/-- 'clusterlockslaw07.RequestTapes', WHERE WHAT IT READS IS OF BULK AT MOST 1048576: true; the input reads as it did. -/
def requestTapesUptoRow : OpenClaim := { program := "ytlfnpkjfnafeaaadoor", sum := "89191545955f66a79534918a4cbfe566991dc1cbbad0c300434a57ee7a71dc3d", func := "clusterlocks/clusterlockslaw07.RequestTapes", spec := "requestTapes", inPlace := ["internal/abi.NoEscape"], unfollowed := true, recurses := true, named := ["internal/strconv.uint64pow10", "math/bits.deBruijn32tab", "math/bits.deBruijn64tab"], apart := false, laid := [("math/bits.deBruijn32tab", laid_math_bits_deBruijn32tab), ("math/bits.deBruijn64tab", laid_math_bits_deBruijn64tab), ("internal/strconv.uint64pow10", laid_internal_strconv_uint64pow10)], narrowed := true }
def RequestTapesUptoSaid : Prop := requestTapesUptoRow.holds Tryd.pinned (OpenSpec.upto requestTapesSpec)

/-- 'clusterlockslaw07.RequestCanonical', WHERE WHAT IT READS IS OF BULK AT MOST 1048576: true; the input reads as it did. -/
def requestCanonicalUptoRow : OpenClaim := { program := "ytlfnpkjfnafeaaadoor", sum := "89191545955f66a79534918a4cbfe566991dc1cbbad0c300434a57ee7a71dc3d", func := "clusterlocks/clusterlockslaw07.RequestCanonical", spec := "requestCanonical", inPlace := ["internal/abi.NoEscape"], unfollowed := true, recurses := true, named := ["internal/strconv.uint64pow10", "math/bits.deBruijn32tab", "math/bits.deBruijn64tab"], apart := false, laid := [("math/bits.deBruijn32tab", laid_math_bits_deBruijn32tab), ("math/bits.deBruijn64tab", laid_math_bits_deBruijn64tab), ("internal/strconv.uint64pow10", laid_internal_strconv_uint64pow10)], narrowed := true }
def RequestCanonicalUptoSaid : Prop := requestCanonicalUptoRow.holds Tryd.pinned (OpenSpec.upto requestCanonicalSpec)

/-- 'clusterlockslaw07.RequestSpaces', WHERE WHAT IT READS IS OF BULK AT MOST 1048576: true; the input reads as it did. -/
def requestSpacesUptoRow : OpenClaim := { program := "ytlfnpkjfnafeaaadoor", sum := "89191545955f66a79534918a4cbfe566991dc1cbbad0c300434a57ee7a71dc3d", func := "clusterlocks/clusterlockslaw07.RequestSpaces", spec := "requestSpaces", inPlace := ["internal/abi.NoEscape"], unfollowed := true, recurses := true, named := ["internal/strconv.uint64pow10", "math/bits.deBruijn32tab", "math/bits.deBruijn64tab"], apart := false, laid := [("math/bits.deBruijn32tab", laid_math_bits_deBruijn32tab), ("math/bits.deBruijn64tab", laid_math_bits_deBruijn64tab), ("internal/strconv.uint64pow10", laid_internal_strconv_uint64pow10)], narrowed := true }
def RequestSpacesUptoSaid : Prop := requestSpacesUptoRow.holds Tryd.pinned (OpenSpec.upto requestSpacesSpec)

/-- 'clusterlockslaw07.RequestNests', WHERE WHAT IT READS IS OF BULK AT MOST 1048576: true; the input reads as it did. -/
def requestNestsUptoRow : OpenClaim := { program := "ytlfnpkjfnafeaaadoor", sum := "89191545955f66a79534918a4cbfe566991dc1cbbad0c300434a57ee7a71dc3d", func := "clusterlocks/clusterlockslaw07.RequestNests", spec := "requestNests", inPlace := ["internal/abi.NoEscape"], unfollowed := true, recurses := true, named := ["internal/strconv.uint64pow10", "math/bits.deBruijn32tab", "math/bits.deBruijn64tab"], apart := false, laid := [("math/bits.deBruijn32tab", laid_math_bits_deBruijn32tab), ("math/bits.deBruijn64tab", laid_math_bits_deBruijn64tab), ("internal/strconv.uint64pow10", laid_internal_strconv_uint64pow10)], narrowed := true }
def RequestNestsUptoSaid : Prop := requestNestsUptoRow.holds Tryd.pinned (OpenSpec.upto requestNestsSpec)

/-- 'clusterlockslaw07.RequestConflicts', WHERE WHAT IT READS IS OF BULK AT MOST 1048576: true; the input reads as it did. -/
def requestConflictsUptoRow : OpenClaim := { program := "ytlfnpkjfnafeaaadoor", sum := "89191545955f66a79534918a4cbfe566991dc1cbbad0c300434a57ee7a71dc3d", func := "clusterlocks/clusterlockslaw07.RequestConflicts", spec := "requestConflicts", inPlace := ["internal/abi.NoEscape"], unfollowed := true, recurses := true, named := ["internal/strconv.uint64pow10", "math/bits.deBruijn32tab", "math/bits.deBruijn64tab"], apart := false, laid := [("math/bits.deBruijn32tab", laid_math_bits_deBruijn32tab), ("math/bits.deBruijn64tab", laid_math_bits_deBruijn64tab), ("internal/strconv.uint64pow10", laid_internal_strconv_uint64pow10)], narrowed := true }
def RequestConflictsUptoSaid : Prop := requestConflictsUptoRow.holds Tryd.pinned (OpenSpec.upto requestConflictsSpec)

/-- 'clusterlockslaw07.RequestFormats', WHERE WHAT IT READS IS OF BULK AT MOST 1048576: true; the input reads as it did. -/
def requestFormatsUptoRow : OpenClaim := { program := "ytlfnpkjfnafeaaadoor", sum := "89191545955f66a79534918a4cbfe566991dc1cbbad0c300434a57ee7a71dc3d", func := "clusterlocks/clusterlockslaw07.RequestFormats", spec := "requestFormats", inPlace := ["internal/abi.NoEscape"], unfollowed := true, recurses := true, named := ["internal/strconv.uint64pow10", "math/bits.deBruijn32tab", "math/bits.deBruijn64tab"], loops := true, apart := false, laid := [("math/bits.deBruijn32tab", laid_math_bits_deBruijn32tab), ("math/bits.deBruijn64tab", laid_math_bits_deBruijn64tab), ("internal/strconv.uint64pow10", laid_internal_strconv_uint64pow10)], narrowed := true }
def RequestFormatsUptoSaid : Prop := requestFormatsUptoRow.holds Tryd.pinned (OpenSpec.upto requestFormatsSpec)

end Rows
end Go.Proofs.YtlfnpkjfnafeaaaDoor
