/-
  NARROWER THAN 'FOR EVERY INPUT', by the rows' own cells (each row's printed sentence says how): NormalMinimal: loops · NormalDual: loops · NormalImplies: loops · NormalSimplify: loops · NormalBlocking: loops.
  DERIVED. THE GIVEN ROWS OF THIS SEAT. 11 by the template 'for every input the law returns true; each argument reads behind the call as it read before'; 0 by the template 'total and deterministic' (their statements: YtmolffigeobnnaaTotals.lean).
  GIVEN WITH THE SEED: the statements are not yours to turn. If you find one false, say at which input.
  Laid BY PROGRAM, IN A SANDBOX (cutbox-rows.mjs): the forced cells as the released guide's own fill.sh prints them over the translation 932a50c77c7fa417… (all of the seat's roots in one cut). By AI agents, Wed Nov 11 2026. No macro, syntax, notation, axiom, sorry.
-/
import Derived.Test.YtmolffigeobnnaaChecked
import GoSem.Claim
import GoSem.ClaimJoined
import GoSem.ClaimMapViews
import Derived.JoinedTies
import Derived.KernelRfl
namespace Go.Proofs.Ytmolffigeobnnaa
/- THE CELL 'sum', in the pinned program and in every row, IS THE sha256 OF THE DUMP (.gsa) THAT YtmolffigeobnnaaProg.lean LOADS. Nothing in Lean hashes anything: it is a label: what it is worth is what the hold of that sum in a sandbox is worth. -/
noncomputable def Try.pinned : Pinned := { name := "ytmolffigeobnnaa", sum := "932a50c77c7fa417ed25d7c53924b4ac34bce37268292fa5cd6f614fe9d84944", checked := Try.checked }
namespace Rows
def none {H : Type} : Left H := { results := [], args := [] }

/-- 'clusterlockslaw09.NormalMinimal': WHATEVER THE INPUT: true; the input reads as it did. -/
def normalMinimalSpec : ChangeSpec := { name := "normalMinimal", fn := fun _ => fun
  | [d] => { results := [.lit (.bool true)], args := [d] }
  | _ => none }
def normalMinimalRow : OpenClaim := { program := "ytmolffigeobnnaa", sum := "932a50c77c7fa417ed25d7c53924b4ac34bce37268292fa5cd6f614fe9d84944", func := "clusterlocks/clusterlockslaw09.NormalMinimal", spec := "normalMinimal", unfollowed := true, recurses := true, loops := true, apart := false }
def NormalMinimalSaid : Prop := normalMinimalRow.holds Try.pinned (OpenSpec.ofChange normalMinimalSpec)

/-- ITS FALSE NEIGHBOUR: 'it returns false'. Refute it at one input. -/
def normalMinimalWrong : ChangeSpec := { name := "normalMinimal", fn := fun _ => fun
  | [d] => { results := [.lit (.bool false)], args := [d] }
  | _ => none }
def NormalMinimalWrongFalsely : Prop := normalMinimalRow.holds Try.pinned (OpenSpec.ofChange normalMinimalWrong)

/-- 'clusterlockslaw09.NormalDual': WHATEVER THE INPUT: true; the input reads as it did. -/
def normalDualSpec : ChangeSpec := { name := "normalDual", fn := fun _ => fun
  | [d1, d2] => { results := [.lit (.bool true)], args := [d1, d2] }
  | _ => none }
def normalDualRow : OpenClaim := { program := "ytmolffigeobnnaa", sum := "932a50c77c7fa417ed25d7c53924b4ac34bce37268292fa5cd6f614fe9d84944", func := "clusterlocks/clusterlockslaw09.NormalDual", spec := "normalDual", unfollowed := true, recurses := true, loops := true, apart := false }
def NormalDualSaid : Prop := normalDualRow.holds Try.pinned (OpenSpec.ofChange normalDualSpec)

/-- ITS FALSE NEIGHBOUR: 'it returns false'. Refute it at one input. -/
def normalDualWrong : ChangeSpec := { name := "normalDual", fn := fun _ => fun
  | [d1, d2] => { results := [.lit (.bool false)], args := [d1, d2] }
  | _ => none }
def NormalDualWrongFalsely : Prop := normalDualRow.holds Try.pinned (OpenSpec.ofChange normalDualWrong)

/-- 'clusterlockslaw09.NormalImplies': WHATEVER THE INPUT: true; the input reads as it did. -/
def normalImpliesSpec : ChangeSpec := { name := "normalImplies", fn := fun _ => fun
  | [d1, d2] => { results := [.lit (.bool true)], args := [d1, d2] }
  | _ => none }
def normalImpliesRow : OpenClaim := { program := "ytmolffigeobnnaa", sum := "932a50c77c7fa417ed25d7c53924b4ac34bce37268292fa5cd6f614fe9d84944", func := "clusterlocks/clusterlockslaw09.NormalImplies", spec := "normalImplies", unfollowed := true, recurses := true, loops := true, apart := false }
def NormalImpliesSaid : Prop := normalImpliesRow.holds Try.pinned (OpenSpec.ofChange normalImpliesSpec)

/-- ITS FALSE NEIGHBOUR: 'it returns false'. Refute it at one input. -/
def normalImpliesWrong : ChangeSpec := { name := "normalImplies", fn := fun _ => fun
  | [d1, d2] => { results := [.lit (.bool false)], args := [d1, d2] }
  | _ => none }
def NormalImpliesWrongFalsely : Prop := normalImpliesRow.holds Try.pinned (OpenSpec.ofChange normalImpliesWrong)

/-- 'clusterlockslaw09.NormalOrders': WHATEVER THE INPUT: true; the input reads as it did. -/
def normalOrdersSpec : ChangeSpec := { name := "normalOrders", fn := fun _ => fun
  | [d1, d2, d3] => { results := [.lit (.bool true)], args := [d1, d2, d3] }
  | _ => none }
def normalOrdersRow : OpenClaim := { program := "ytmolffigeobnnaa", sum := "932a50c77c7fa417ed25d7c53924b4ac34bce37268292fa5cd6f614fe9d84944", func := "clusterlocks/clusterlockslaw09.NormalOrders", spec := "normalOrders", unfollowed := true, recurses := true, apart := false }
def NormalOrdersSaid : Prop := normalOrdersRow.holds Try.pinned (OpenSpec.ofChange normalOrdersSpec)

/-- ITS FALSE NEIGHBOUR: 'it returns false'. Refute it at one input. -/
def normalOrdersWrong : ChangeSpec := { name := "normalOrders", fn := fun _ => fun
  | [d1, d2, d3] => { results := [.lit (.bool false)], args := [d1, d2, d3] }
  | _ => none }
def NormalOrdersWrongFalsely : Prop := normalOrdersRow.holds Try.pinned (OpenSpec.ofChange normalOrdersWrong)

/-- 'clusterlockslaw09.NormalSimplify': WHATEVER THE INPUT: true; the input reads as it did. -/
def normalSimplifySpec : ChangeSpec := { name := "normalSimplify", fn := fun _ => fun
  | [d] => { results := [.lit (.bool true)], args := [d] }
  | _ => none }
def normalSimplifyRow : OpenClaim := { program := "ytmolffigeobnnaa", sum := "932a50c77c7fa417ed25d7c53924b4ac34bce37268292fa5cd6f614fe9d84944", func := "clusterlocks/clusterlockslaw09.NormalSimplify", spec := "normalSimplify", unfollowed := true, recurses := true, loops := true, apart := false }
def NormalSimplifySaid : Prop := normalSimplifyRow.holds Try.pinned (OpenSpec.ofChange normalSimplifySpec)

/-- ITS FALSE NEIGHBOUR: 'it returns false'. Refute it at one input. -/
def normalSimplifyWrong : ChangeSpec := { name := "normalSimplify", fn := fun _ => fun
  | [d] => { results := [.lit (.bool false)], args := [d] }
  | _ => none }
def NormalSimplifyWrongFalsely : Prop := normalSimplifyRow.holds Try.pinned (OpenSpec.ofChange normalSimplifyWrong)

/-- 'clusterlockslaw09.NormalSimpler': WHATEVER THE INPUT: true; the input reads as it did. -/
def normalSimplerSpec : ChangeSpec := { name := "normalSimpler", fn := fun _ => fun
  | [d] => { results := [.lit (.bool true)], args := [d] }
  | _ => none }
def normalSimplerRow : OpenClaim := { program := "ytmolffigeobnnaa", sum := "932a50c77c7fa417ed25d7c53924b4ac34bce37268292fa5cd6f614fe9d84944", func := "clusterlocks/clusterlockslaw09.NormalSimpler", spec := "normalSimpler", unfollowed := true, recurses := true, apart := false }
def NormalSimplerSaid : Prop := normalSimplerRow.holds Try.pinned (OpenSpec.ofChange normalSimplerSpec)

/-- ITS FALSE NEIGHBOUR: 'it returns false'. Refute it at one input. -/
def normalSimplerWrong : ChangeSpec := { name := "normalSimpler", fn := fun _ => fun
  | [d] => { results := [.lit (.bool false)], args := [d] }
  | _ => none }
def NormalSimplerWrongFalsely : Prop := normalSimplerRow.holds Try.pinned (OpenSpec.ofChange normalSimplerWrong)

/-- 'clusterlockslaw09.NormalBlocking': WHATEVER THE INPUT: true; the input reads as it did. -/
def normalBlockingSpec : ChangeSpec := { name := "normalBlocking", fn := fun _ => fun
  | [d] => { results := [.lit (.bool true)], args := [d] }
  | _ => none }
def normalBlockingRow : OpenClaim := { program := "ytmolffigeobnnaa", sum := "932a50c77c7fa417ed25d7c53924b4ac34bce37268292fa5cd6f614fe9d84944", func := "clusterlocks/clusterlockslaw09.NormalBlocking", spec := "normalBlocking", unfollowed := true, recurses := true, loops := true, apart := false }
def NormalBlockingSaid : Prop := normalBlockingRow.holds Try.pinned (OpenSpec.ofChange normalBlockingSpec)

/-- ITS FALSE NEIGHBOUR: 'it returns false'. Refute it at one input. -/
def normalBlockingWrong : ChangeSpec := { name := "normalBlocking", fn := fun _ => fun
  | [d] => { results := [.lit (.bool false)], args := [d] }
  | _ => none }
def NormalBlockingWrongFalsely : Prop := normalBlockingRow.holds Try.pinned (OpenSpec.ofChange normalBlockingWrong)

/-- 'clusterlockslaw09.NormalMeets': WHATEVER THE INPUT: true; the input reads as it did. -/
def normalMeetsSpec : ChangeSpec := { name := "normalMeets", fn := fun _ => fun
  | [d] => { results := [.lit (.bool true)], args := [d] }
  | _ => none }
def normalMeetsRow : OpenClaim := { program := "ytmolffigeobnnaa", sum := "932a50c77c7fa417ed25d7c53924b4ac34bce37268292fa5cd6f614fe9d84944", func := "clusterlocks/clusterlockslaw09.NormalMeets", spec := "normalMeets", unfollowed := true, recurses := true, apart := false }
def NormalMeetsSaid : Prop := normalMeetsRow.holds Try.pinned (OpenSpec.ofChange normalMeetsSpec)

/-- ITS FALSE NEIGHBOUR: 'it returns false'. Refute it at one input. -/
def normalMeetsWrong : ChangeSpec := { name := "normalMeets", fn := fun _ => fun
  | [d] => { results := [.lit (.bool false)], args := [d] }
  | _ => none }
def NormalMeetsWrongFalsely : Prop := normalMeetsRow.holds Try.pinned (OpenSpec.ofChange normalMeetsWrong)

/-- 'clusterlockslaw09.NormalCovers': WHATEVER THE INPUT: true; the input reads as it did. -/
def normalCoversSpec : ChangeSpec := { name := "normalCovers", fn := fun _ => fun
  | [d1, d2] => { results := [.lit (.bool true)], args := [d1, d2] }
  | _ => none }
def normalCoversRow : OpenClaim := { program := "ytmolffigeobnnaa", sum := "932a50c77c7fa417ed25d7c53924b4ac34bce37268292fa5cd6f614fe9d84944", func := "clusterlocks/clusterlockslaw09.NormalCovers", spec := "normalCovers", unfollowed := true, recurses := true, apart := false }
def NormalCoversSaid : Prop := normalCoversRow.holds Try.pinned (OpenSpec.ofChange normalCoversSpec)

/-- ITS FALSE NEIGHBOUR: 'it returns false'. Refute it at one input. -/
def normalCoversWrong : ChangeSpec := { name := "normalCovers", fn := fun _ => fun
  | [d1, d2] => { results := [.lit (.bool false)], args := [d1, d2] }
  | _ => none }
def NormalCoversWrongFalsely : Prop := normalCoversRow.holds Try.pinned (OpenSpec.ofChange normalCoversWrong)

/-- 'clusterlockslaw09.NormalFromSets': WHATEVER THE INPUT: true; the input reads as it did. -/
def normalFromSetsSpec : ChangeSpec := { name := "normalFromSets", fn := fun _ => fun
  | [d1, d2] => { results := [.lit (.bool true)], args := [d1, d2] }
  | _ => none }
def normalFromSetsRow : OpenClaim := { program := "ytmolffigeobnnaa", sum := "932a50c77c7fa417ed25d7c53924b4ac34bce37268292fa5cd6f614fe9d84944", func := "clusterlocks/clusterlockslaw09.NormalFromSets", spec := "normalFromSets", unfollowed := true, recurses := true, apart := false }
def NormalFromSetsSaid : Prop := normalFromSetsRow.holds Try.pinned (OpenSpec.ofChange normalFromSetsSpec)

/-- ITS FALSE NEIGHBOUR: 'it returns false'. Refute it at one input. -/
def normalFromSetsWrong : ChangeSpec := { name := "normalFromSets", fn := fun _ => fun
  | [d1, d2] => { results := [.lit (.bool false)], args := [d1, d2] }
  | _ => none }
def NormalFromSetsWrongFalsely : Prop := normalFromSetsRow.holds Try.pinned (OpenSpec.ofChange normalFromSetsWrong)

/-- 'clusterlockslaw09.NormalBack': WHATEVER THE INPUT: true; the input reads as it did. -/
def normalBackSpec : ChangeSpec := { name := "normalBack", fn := fun _ => fun
  | [d] => { results := [.lit (.bool true)], args := [d] }
  | _ => none }
def normalBackRow : OpenClaim := { program := "ytmolffigeobnnaa", sum := "932a50c77c7fa417ed25d7c53924b4ac34bce37268292fa5cd6f614fe9d84944", func := "clusterlocks/clusterlockslaw09.NormalBack", spec := "normalBack", unfollowed := true, recurses := true, apart := false }
def NormalBackSaid : Prop := normalBackRow.holds Try.pinned (OpenSpec.ofChange normalBackSpec)

/-- ITS FALSE NEIGHBOUR: 'it returns false'. Refute it at one input. -/
def normalBackWrong : ChangeSpec := { name := "normalBack", fn := fun _ => fun
  | [d] => { results := [.lit (.bool false)], args := [d] }
  | _ => none }
def NormalBackWrongFalsely : Prop := normalBackRow.holds Try.pinned (OpenSpec.ofChange normalBackWrong)

/- THE SECOND FORM. 'bulk': how many values and letters a reading holds, each counted each time it is reached (what is shared counts as often as it is met; a slice's spare places count too). A statement '..UptoSaid' is the law's where the arguments, and the package variables that the reading takes, are together of bulk at most 1048576: NARROWER than '..Said'. Prove '..Said' where nothing that the law and all that it calls make is longer than what came in: it says more and counts as full. Else prove '..UptoSaid'. A law counts once. -/
mutual
def uptoBulk {H : Type} : DataW H → Nat
  | .lit (.string bytes) => bytes.length + 1
  | .lit _ => 1
  | .nil => 1
  | .ptr d => uptoBulk d + 1
  | .slice elems spare => uptoBulkAll elems + uptoBulkAll spare + 1
  | .agg parts => uptoBulkAll parts + 1
  | .iface _ d => uptoBulk d + 1
  | .map entries => uptoBulkEntries entries + 1
  | .held _ => 1
def uptoBulkAll {H : Type} : List (DataW H) → Nat
  | [] => 0
  | d :: r => uptoBulk d + uptoBulkAll r
def uptoBulkEntries {H : Type} : List (Lit × DataW H) → Nat
  | [] => 0
  | x :: r => uptoBulkEntry x + uptoBulkEntries r
def uptoBulkEntry {H : Type} : Lit × DataW H → Nat
  | (.string bytes, d) => bytes.length + uptoBulk d + 1
  | (_, d) => uptoBulk d + 1
 end
def uptoSmall : (H : Type) → List (DataW H) → Bool := fun _ ds => decide (uptoBulkAll ds ≤ 1048576)
def OpenSpec.upto (s : _root_.Go.ChangeSpec) : _root_.Go.OpenSpec := { _root_.Go.OpenSpec.ofChange s with cond := some uptoSmall }

/-- 'clusterlockslaw09.NormalMinimal', WHERE WHAT IT READS IS OF BULK AT MOST 1048576: true; the input reads as it did. -/
def normalMinimalUptoRow : OpenClaim := { program := "ytmolffigeobnnaa", sum := "932a50c77c7fa417ed25d7c53924b4ac34bce37268292fa5cd6f614fe9d84944", func := "clusterlocks/clusterlockslaw09.NormalMinimal", spec := "normalMinimal", unfollowed := true, recurses := true, loops := true, apart := false, narrowed := true }
def NormalMinimalUptoSaid : Prop := normalMinimalUptoRow.holds Try.pinned (OpenSpec.upto normalMinimalSpec)

/-- 'clusterlockslaw09.NormalDual', WHERE WHAT IT READS IS OF BULK AT MOST 1048576: true; the input reads as it did. -/
def normalDualUptoRow : OpenClaim := { program := "ytmolffigeobnnaa", sum := "932a50c77c7fa417ed25d7c53924b4ac34bce37268292fa5cd6f614fe9d84944", func := "clusterlocks/clusterlockslaw09.NormalDual", spec := "normalDual", unfollowed := true, recurses := true, loops := true, apart := false, narrowed := true }
def NormalDualUptoSaid : Prop := normalDualUptoRow.holds Try.pinned (OpenSpec.upto normalDualSpec)

/-- 'clusterlockslaw09.NormalImplies', WHERE WHAT IT READS IS OF BULK AT MOST 1048576: true; the input reads as it did. -/
def normalImpliesUptoRow : OpenClaim := { program := "ytmolffigeobnnaa", sum := "932a50c77c7fa417ed25d7c53924b4ac34bce37268292fa5cd6f614fe9d84944", func := "clusterlocks/clusterlockslaw09.NormalImplies", spec := "normalImplies", unfollowed := true, recurses := true, loops := true, apart := false, narrowed := true }
def NormalImpliesUptoSaid : Prop := normalImpliesUptoRow.holds Try.pinned (OpenSpec.upto normalImpliesSpec)

/-- 'clusterlockslaw09.NormalOrders', WHERE WHAT IT READS IS OF BULK AT MOST 1048576: true; the input reads as it did. -/
def normalOrdersUptoRow : OpenClaim := { program := "ytmolffigeobnnaa", sum := "932a50c77c7fa417ed25d7c53924b4ac34bce37268292fa5cd6f614fe9d84944", func := "clusterlocks/clusterlockslaw09.NormalOrders", spec := "normalOrders", unfollowed := true, recurses := true, apart := false, narrowed := true }
def NormalOrdersUptoSaid : Prop := normalOrdersUptoRow.holds Try.pinned (OpenSpec.upto normalOrdersSpec)

/-- 'clusterlockslaw09.NormalSimplify', WHERE WHAT IT READS IS OF BULK AT MOST 1048576: true; the input reads as it did. -/
def normalSimplifyUptoRow : OpenClaim := { program := "ytmolffigeobnnaa", sum := "932a50c77c7fa417ed25d7c53924b4ac34bce37268292fa5cd6f614fe9d84944", func := "clusterlocks/clusterlockslaw09.NormalSimplify", spec := "normalSimplify", unfollowed := true, recurses := true, loops := true, apart := false, narrowed := true }
def NormalSimplifyUptoSaid : Prop := normalSimplifyUptoRow.holds Try.pinned (OpenSpec.upto normalSimplifySpec)

/-- 'clusterlockslaw09.NormalSimpler', WHERE WHAT IT READS IS OF BULK AT MOST 1048576: true; the input reads as it did. -/
def normalSimplerUptoRow : OpenClaim := { program := "ytmolffigeobnnaa", sum := "932a50c77c7fa417ed25d7c53924b4ac34bce37268292fa5cd6f614fe9d84944", func := "clusterlocks/clusterlockslaw09.NormalSimpler", spec := "normalSimpler", unfollowed := true, recurses := true, apart := false, narrowed := true }
def NormalSimplerUptoSaid : Prop := normalSimplerUptoRow.holds Try.pinned (OpenSpec.upto normalSimplerSpec)

/-- 'clusterlockslaw09.NormalBlocking', WHERE WHAT IT READS IS OF BULK AT MOST 1048576: true; the input reads as it did. -/
def normalBlockingUptoRow : OpenClaim := { program := "ytmolffigeobnnaa", sum := "932a50c77c7fa417ed25d7c53924b4ac34bce37268292fa5cd6f614fe9d84944", func := "clusterlocks/clusterlockslaw09.NormalBlocking", spec := "normalBlocking", unfollowed := true, recurses := true, loops := true, apart := false, narrowed := true }
def NormalBlockingUptoSaid : Prop := normalBlockingUptoRow.holds Try.pinned (OpenSpec.upto normalBlockingSpec)

/-- 'clusterlockslaw09.NormalMeets', WHERE WHAT IT READS IS OF BULK AT MOST 1048576: true; the input reads as it did. -/
def normalMeetsUptoRow : OpenClaim := { program := "ytmolffigeobnnaa", sum := "932a50c77c7fa417ed25d7c53924b4ac34bce37268292fa5cd6f614fe9d84944", func := "clusterlocks/clusterlockslaw09.NormalMeets", spec := "normalMeets", unfollowed := true, recurses := true, apart := false, narrowed := true }
def NormalMeetsUptoSaid : Prop := normalMeetsUptoRow.holds Try.pinned (OpenSpec.upto normalMeetsSpec)

/-- 'clusterlockslaw09.NormalCovers', WHERE WHAT IT READS IS OF BULK AT MOST 1048576: true; the input reads as it did. -/
def normalCoversUptoRow : OpenClaim := { program := "ytmolffigeobnnaa", sum := "932a50c77c7fa417ed25d7c53924b4ac34bce37268292fa5cd6f614fe9d84944", func := "clusterlocks/clusterlockslaw09.NormalCovers", spec := "normalCovers", unfollowed := true, recurses := true, apart := false, narrowed := true }
def NormalCoversUptoSaid : Prop := normalCoversUptoRow.holds Try.pinned (OpenSpec.upto normalCoversSpec)

/-- 'clusterlockslaw09.NormalFromSets', WHERE WHAT IT READS IS OF BULK AT MOST 1048576: true; the input reads as it did. -/
def normalFromSetsUptoRow : OpenClaim := { program := "ytmolffigeobnnaa", sum := "932a50c77c7fa417ed25d7c53924b4ac34bce37268292fa5cd6f614fe9d84944", func := "clusterlocks/clusterlockslaw09.NormalFromSets", spec := "normalFromSets", unfollowed := true, recurses := true, apart := false, narrowed := true }
def NormalFromSetsUptoSaid : Prop := normalFromSetsUptoRow.holds Try.pinned (OpenSpec.upto normalFromSetsSpec)

/-- 'clusterlockslaw09.NormalBack', WHERE WHAT IT READS IS OF BULK AT MOST 1048576: true; the input reads as it did. -/
def normalBackUptoRow : OpenClaim := { program := "ytmolffigeobnnaa", sum := "932a50c77c7fa417ed25d7c53924b4ac34bce37268292fa5cd6f614fe9d84944", func := "clusterlocks/clusterlockslaw09.NormalBack", spec := "normalBack", unfollowed := true, recurses := true, apart := false, narrowed := true }
def NormalBackUptoSaid : Prop := normalBackUptoRow.holds Try.pinned (OpenSpec.upto normalBackSpec)

end Rows
end Go.Proofs.Ytmolffigeobnnaa
