/-
  NARROWER THAN 'FOR EVERY INPUT', by the rows' own cells (each row's printed sentence says how): FormulaAtoms: loops · FormulaHolds: loops · FormulaHopeless: loops · FormulaPrunes: loops · FormulaMinimal: loops · FormulaClass: loops · FormulaResolves: loops.
  DERIVED. THE GIVEN ROWS OF THIS SEAT. 10 by the template 'for every input the law returns true; each argument reads behind the call as it read before'; 0 by the template 'total and deterministic' (their statements: YtmboojbhnmdnkaaTotals.lean).
  GIVEN WITH THE SEED: the statements are not yours to turn. If you find one false, say at which input.
  Laid BY PROGRAM, IN A SANDBOX (cutbox-rows.mjs): the forced cells as the released guide's own fill.sh prints them over the translation 4e56a2121c8536f5… (all of the seat's roots in one cut). By AI agents, Wed Nov 11 2026. No macro, syntax, notation, axiom, sorry.
-/
import Derived.Test.YtmboojbhnmdnkaaChecked
import GoSem.Claim
import GoSem.ClaimJoined
import GoSem.ClaimMapViews
import Derived.JoinedTies
import Derived.KernelRfl
namespace Go.Proofs.Ytmboojbhnmdnkaa
/- THE CELL 'sum', in the pinned program and in every row, IS THE sha256 OF THE DUMP (.gsa) THAT YtmboojbhnmdnkaaProg.lean LOADS. Nothing in Lean hashes anything: it is a label: what it is worth is what the hold of that sum in a sandbox is worth. -/
noncomputable def Try.pinned : Pinned := { name := "ytmboojbhnmdnkaa", sum := "4e56a2121c8536f5611926ba400684bbc4892598058e4096f549430f1486610e", checked := Try.checked }
namespace Rows
def none {H : Type} : Left H := { results := [], args := [] }

/-- 'clusterlockslaw08.FormulaAtoms': WHATEVER THE INPUT: true; the input reads as it did. -/
def formulaAtomsSpec : ChangeSpec := { name := "formulaAtoms", fn := fun _ => fun
  | [d] => { results := [.lit (.bool true)], args := [d] }
  | _ => none }
def formulaAtomsRow : OpenClaim := { program := "ytmboojbhnmdnkaa", sum := "4e56a2121c8536f5611926ba400684bbc4892598058e4096f549430f1486610e", func := "clusterlocks/clusterlockslaw08.FormulaAtoms", spec := "formulaAtoms", unfollowed := true, recurses := true, loops := true, apart := false }
def FormulaAtomsSaid : Prop := formulaAtomsRow.holds Try.pinned (OpenSpec.ofChange formulaAtomsSpec)

/-- ITS FALSE NEIGHBOUR: 'it returns false'. Refute it at one input. -/
def formulaAtomsWrong : ChangeSpec := { name := "formulaAtoms", fn := fun _ => fun
  | [d] => { results := [.lit (.bool false)], args := [d] }
  | _ => none }
def FormulaAtomsWrongFalsely : Prop := formulaAtomsRow.holds Try.pinned (OpenSpec.ofChange formulaAtomsWrong)

/-- 'clusterlockslaw08.FormulaHolds': WHATEVER THE INPUT: true; the input reads as it did. -/
def formulaHoldsSpec : ChangeSpec := { name := "formulaHolds", fn := fun _ => fun
  | [d1, d2] => { results := [.lit (.bool true)], args := [d1, d2] }
  | _ => none }
def formulaHoldsRow : OpenClaim := { program := "ytmboojbhnmdnkaa", sum := "4e56a2121c8536f5611926ba400684bbc4892598058e4096f549430f1486610e", func := "clusterlocks/clusterlockslaw08.FormulaHolds", spec := "formulaHolds", unfollowed := true, recurses := true, loops := true, apart := false }
def FormulaHoldsSaid : Prop := formulaHoldsRow.holds Try.pinned (OpenSpec.ofChange formulaHoldsSpec)

/-- ITS FALSE NEIGHBOUR: 'it returns false'. Refute it at one input. -/
def formulaHoldsWrong : ChangeSpec := { name := "formulaHolds", fn := fun _ => fun
  | [d1, d2] => { results := [.lit (.bool false)], args := [d1, d2] }
  | _ => none }
def FormulaHoldsWrongFalsely : Prop := formulaHoldsRow.holds Try.pinned (OpenSpec.ofChange formulaHoldsWrong)

/-- 'clusterlockslaw08.FormulaMonotone': WHATEVER THE INPUT: true; the input reads as it did. -/
def formulaMonotoneSpec : ChangeSpec := { name := "formulaMonotone", fn := fun _ => fun
  | [d1, d2, d3] => { results := [.lit (.bool true)], args := [d1, d2, d3] }
  | _ => none }
def formulaMonotoneRow : OpenClaim := { program := "ytmboojbhnmdnkaa", sum := "4e56a2121c8536f5611926ba400684bbc4892598058e4096f549430f1486610e", func := "clusterlocks/clusterlockslaw08.FormulaMonotone", spec := "formulaMonotone", unfollowed := true, recurses := true, apart := false }
def FormulaMonotoneSaid : Prop := formulaMonotoneRow.holds Try.pinned (OpenSpec.ofChange formulaMonotoneSpec)

/-- ITS FALSE NEIGHBOUR: 'it returns false'. Refute it at one input. -/
def formulaMonotoneWrong : ChangeSpec := { name := "formulaMonotone", fn := fun _ => fun
  | [d1, d2, d3] => { results := [.lit (.bool false)], args := [d1, d2, d3] }
  | _ => none }
def FormulaMonotoneWrongFalsely : Prop := formulaMonotoneRow.holds Try.pinned (OpenSpec.ofChange formulaMonotoneWrong)

/-- 'clusterlockslaw08.FormulaHopeless': WHATEVER THE INPUT: true; the input reads as it did. -/
def formulaHopelessSpec : ChangeSpec := { name := "formulaHopeless", fn := fun _ => fun
  | [d1, d2] => { results := [.lit (.bool true)], args := [d1, d2] }
  | _ => none }
def formulaHopelessRow : OpenClaim := { program := "ytmboojbhnmdnkaa", sum := "4e56a2121c8536f5611926ba400684bbc4892598058e4096f549430f1486610e", func := "clusterlocks/clusterlockslaw08.FormulaHopeless", spec := "formulaHopeless", unfollowed := true, recurses := true, loops := true, apart := false }
def FormulaHopelessSaid : Prop := formulaHopelessRow.holds Try.pinned (OpenSpec.ofChange formulaHopelessSpec)

/-- ITS FALSE NEIGHBOUR: 'it returns false'. Refute it at one input. -/
def formulaHopelessWrong : ChangeSpec := { name := "formulaHopeless", fn := fun _ => fun
  | [d1, d2] => { results := [.lit (.bool false)], args := [d1, d2] }
  | _ => none }
def FormulaHopelessWrongFalsely : Prop := formulaHopelessRow.holds Try.pinned (OpenSpec.ofChange formulaHopelessWrong)

/-- 'clusterlockslaw08.FormulaPrunes': WHATEVER THE INPUT: true; the input reads as it did. -/
def formulaPrunesSpec : ChangeSpec := { name := "formulaPrunes", fn := fun _ => fun
  | [d1, d2] => { results := [.lit (.bool true)], args := [d1, d2] }
  | _ => none }
def formulaPrunesRow : OpenClaim := { program := "ytmboojbhnmdnkaa", sum := "4e56a2121c8536f5611926ba400684bbc4892598058e4096f549430f1486610e", func := "clusterlocks/clusterlockslaw08.FormulaPrunes", spec := "formulaPrunes", unfollowed := true, recurses := true, loops := true, apart := false }
def FormulaPrunesSaid : Prop := formulaPrunesRow.holds Try.pinned (OpenSpec.ofChange formulaPrunesSpec)

/-- ITS FALSE NEIGHBOUR: 'it returns false'. Refute it at one input. -/
def formulaPrunesWrong : ChangeSpec := { name := "formulaPrunes", fn := fun _ => fun
  | [d1, d2] => { results := [.lit (.bool false)], args := [d1, d2] }
  | _ => none }
def FormulaPrunesWrongFalsely : Prop := formulaPrunesRow.holds Try.pinned (OpenSpec.ofChange formulaPrunesWrong)

/-- 'clusterlockslaw08.FormulaMinimal': WHATEVER THE INPUT: true; the input reads as it did. -/
def formulaMinimalSpec : ChangeSpec := { name := "formulaMinimal", fn := fun _ => fun
  | [d1, d2] => { results := [.lit (.bool true)], args := [d1, d2] }
  | _ => none }
def formulaMinimalRow : OpenClaim := { program := "ytmboojbhnmdnkaa", sum := "4e56a2121c8536f5611926ba400684bbc4892598058e4096f549430f1486610e", func := "clusterlocks/clusterlockslaw08.FormulaMinimal", spec := "formulaMinimal", unfollowed := true, recurses := true, loops := true, apart := false }
def FormulaMinimalSaid : Prop := formulaMinimalRow.holds Try.pinned (OpenSpec.ofChange formulaMinimalSpec)

/-- ITS FALSE NEIGHBOUR: 'it returns false'. Refute it at one input. -/
def formulaMinimalWrong : ChangeSpec := { name := "formulaMinimal", fn := fun _ => fun
  | [d1, d2] => { results := [.lit (.bool false)], args := [d1, d2] }
  | _ => none }
def FormulaMinimalWrongFalsely : Prop := formulaMinimalRow.holds Try.pinned (OpenSpec.ofChange formulaMinimalWrong)

/-- 'clusterlockslaw08.FormulaClass': WHATEVER THE INPUT: true; the input reads as it did. -/
def formulaClassSpec : ChangeSpec := { name := "formulaClass", fn := fun _ => fun
  | [d] => { results := [.lit (.bool true)], args := [d] }
  | _ => none }
def formulaClassRow : OpenClaim := { program := "ytmboojbhnmdnkaa", sum := "4e56a2121c8536f5611926ba400684bbc4892598058e4096f549430f1486610e", func := "clusterlocks/clusterlockslaw08.FormulaClass", spec := "formulaClass", unfollowed := true, recurses := true, loops := true, apart := false }
def FormulaClassSaid : Prop := formulaClassRow.holds Try.pinned (OpenSpec.ofChange formulaClassSpec)

/-- ITS FALSE NEIGHBOUR: 'it returns false'. Refute it at one input. -/
def formulaClassWrong : ChangeSpec := { name := "formulaClass", fn := fun _ => fun
  | [d] => { results := [.lit (.bool false)], args := [d] }
  | _ => none }
def FormulaClassWrongFalsely : Prop := formulaClassRow.holds Try.pinned (OpenSpec.ofChange formulaClassWrong)

/-- 'clusterlockslaw08.FormulaPure': WHATEVER THE INPUT: true; the input reads as it did. -/
def formulaPureSpec : ChangeSpec := { name := "formulaPure", fn := fun _ => fun
  | [d1, d2] => { results := [.lit (.bool true)], args := [d1, d2] }
  | _ => none }
def formulaPureRow : OpenClaim := { program := "ytmboojbhnmdnkaa", sum := "4e56a2121c8536f5611926ba400684bbc4892598058e4096f549430f1486610e", func := "clusterlocks/clusterlockslaw08.FormulaPure", spec := "formulaPure", unfollowed := true, recurses := true, apart := false }
def FormulaPureSaid : Prop := formulaPureRow.holds Try.pinned (OpenSpec.ofChange formulaPureSpec)

/-- ITS FALSE NEIGHBOUR: 'it returns false'. Refute it at one input. -/
def formulaPureWrong : ChangeSpec := { name := "formulaPure", fn := fun _ => fun
  | [d1, d2] => { results := [.lit (.bool false)], args := [d1, d2] }
  | _ => none }
def FormulaPureWrongFalsely : Prop := formulaPureRow.holds Try.pinned (OpenSpec.ofChange formulaPureWrong)

/-- 'clusterlockslaw08.FormulaResolves': WHATEVER THE INPUT: true; the input reads as it did. -/
def formulaResolvesSpec : ChangeSpec := { name := "formulaResolves", fn := fun _ => fun
  | [d1, d2] => { results := [.lit (.bool true)], args := [d1, d2] }
  | _ => none }
def formulaResolvesRow : OpenClaim := { program := "ytmboojbhnmdnkaa", sum := "4e56a2121c8536f5611926ba400684bbc4892598058e4096f549430f1486610e", func := "clusterlocks/clusterlockslaw08.FormulaResolves", spec := "formulaResolves", unfollowed := true, recurses := true, loops := true, apart := false }
def FormulaResolvesSaid : Prop := formulaResolvesRow.holds Try.pinned (OpenSpec.ofChange formulaResolvesSpec)

/-- ITS FALSE NEIGHBOUR: 'it returns false'. Refute it at one input. -/
def formulaResolvesWrong : ChangeSpec := { name := "formulaResolves", fn := fun _ => fun
  | [d1, d2] => { results := [.lit (.bool false)], args := [d1, d2] }
  | _ => none }
def FormulaResolvesWrongFalsely : Prop := formulaResolvesRow.holds Try.pinned (OpenSpec.ofChange formulaResolvesWrong)

/-- 'clusterlockslaw08.FormulaCatalogs': WHATEVER THE INPUT: true; the input reads as it did. -/
def formulaCatalogsSpec : ChangeSpec := { name := "formulaCatalogs", fn := fun _ => fun
  | [d] => { results := [.lit (.bool true)], args := [d] }
  | _ => none }
def formulaCatalogsRow : OpenClaim := { program := "ytmboojbhnmdnkaa", sum := "4e56a2121c8536f5611926ba400684bbc4892598058e4096f549430f1486610e", func := "clusterlocks/clusterlockslaw08.FormulaCatalogs", spec := "formulaCatalogs", unfollowed := true, recurses := true, apart := false }
def FormulaCatalogsSaid : Prop := formulaCatalogsRow.holds Try.pinned (OpenSpec.ofChange formulaCatalogsSpec)

/-- ITS FALSE NEIGHBOUR: 'it returns false'. Refute it at one input. -/
def formulaCatalogsWrong : ChangeSpec := { name := "formulaCatalogs", fn := fun _ => fun
  | [d] => { results := [.lit (.bool false)], args := [d] }
  | _ => none }
def FormulaCatalogsWrongFalsely : Prop := formulaCatalogsRow.holds Try.pinned (OpenSpec.ofChange formulaCatalogsWrong)

/- THE SECOND FORM. 'bulk': how many values and letters a reading holds, each counted each time it is reached (what is shared counts as often as it is met; a slice's spare places count too). A statement '..UptoSaid' is the law's where the arguments, and the package variables that the reading takes, are together of bulk at most 1048576: NARROWER than '..Said'. Prove '..Said' where nothing that the law and all that it calls make is longer than what came in: it says more and counts as full. Else prove '..UptoSaid'. A law counts once. -/
mutual
def uptoBulk {H : Type} : DataW H → Nat
  | .lit (.string bytes) => bytes.length + 1
  | .lit _ => 1
  | .nil => 1
  | .ptr d => uptoBulk d + 1
  | .slice elems spare => uptoBulkAll elems + uptoBulkAll spare + 1
  | .agg parts => uptoBulkAll parts + 1
  | .iface _ d => uptoBulk d + 1
  | .map entries => uptoBulkEntries entries + 1
  | .held _ => 1
def uptoBulkAll {H : Type} : List (DataW H) → Nat
  | [] => 0
  | d :: r => uptoBulk d + uptoBulkAll r
def uptoBulkEntries {H : Type} : List (Lit × DataW H) → Nat
  | [] => 0
  | x :: r => uptoBulkEntry x + uptoBulkEntries r
def uptoBulkEntry {H : Type} : Lit × DataW H → Nat
  | (.string bytes, d) => bytes.length + uptoBulk d + 1
  | (_, d) => uptoBulk d + 1
 end
def uptoSmall : (H : Type) → List (DataW H) → Bool := fun _ ds => decide (uptoBulkAll ds ≤ 1048576)
def OpenSpec.upto (s : _root_.Go.ChangeSpec) : _root_.Go.OpenSpec := { _root_.Go.OpenSpec.ofChange s with cond := some uptoSmall }

/-- 'clusterlockslaw08.FormulaAtoms', WHERE WHAT IT READS IS OF BULK AT MOST 1048576: true; the input reads as it did. -/
def formulaAtomsUptoRow : OpenClaim := { program := "ytmboojbhnmdnkaa", sum := "4e56a2121c8536f5611926ba400684bbc4892598058e4096f549430f1486610e", func := "clusterlocks/clusterlockslaw08.FormulaAtoms", spec := "formulaAtoms", unfollowed := true, recurses := true, loops := true, apart := false, narrowed := true }
def FormulaAtomsUptoSaid : Prop := formulaAtomsUptoRow.holds Try.pinned (OpenSpec.upto formulaAtomsSpec)

/-- 'clusterlockslaw08.FormulaHolds', WHERE WHAT IT READS IS OF BULK AT MOST 1048576: true; the input reads as it did. -/
def formulaHoldsUptoRow : OpenClaim := { program := "ytmboojbhnmdnkaa", sum := "4e56a2121c8536f5611926ba400684bbc4892598058e4096f549430f1486610e", func := "clusterlocks/clusterlockslaw08.FormulaHolds", spec := "formulaHolds", unfollowed := true, recurses := true, loops := true, apart := false, narrowed := true }
def FormulaHoldsUptoSaid : Prop := formulaHoldsUptoRow.holds Try.pinned (OpenSpec.upto formulaHoldsSpec)

/-- 'clusterlockslaw08.FormulaMonotone', WHERE WHAT IT READS IS OF BULK AT MOST 1048576: true; the input reads as it did. -/
def formulaMonotoneUptoRow : OpenClaim := { program := "ytmboojbhnmdnkaa", sum := "4e56a2121c8536f5611926ba400684bbc4892598058e4096f549430f1486610e", func := "clusterlocks/clusterlockslaw08.FormulaMonotone", spec := "formulaMonotone", unfollowed := true, recurses := true, apart := false, narrowed := true }
def FormulaMonotoneUptoSaid : Prop := formulaMonotoneUptoRow.holds Try.pinned (OpenSpec.upto formulaMonotoneSpec)

/-- 'clusterlockslaw08.FormulaHopeless', WHERE WHAT IT READS IS OF BULK AT MOST 1048576: true; the input reads as it did. -/
def formulaHopelessUptoRow : OpenClaim := { program := "ytmboojbhnmdnkaa", sum := "4e56a2121c8536f5611926ba400684bbc4892598058e4096f549430f1486610e", func := "clusterlocks/clusterlockslaw08.FormulaHopeless", spec := "formulaHopeless", unfollowed := true, recurses := true, loops := true, apart := false, narrowed := true }
def FormulaHopelessUptoSaid : Prop := formulaHopelessUptoRow.holds Try.pinned (OpenSpec.upto formulaHopelessSpec)

/-- 'clusterlockslaw08.FormulaPrunes', WHERE WHAT IT READS IS OF BULK AT MOST 1048576: true; the input reads as it did. -/
def formulaPrunesUptoRow : OpenClaim := { program := "ytmboojbhnmdnkaa", sum := "4e56a2121c8536f5611926ba400684bbc4892598058e4096f549430f1486610e", func := "clusterlocks/clusterlockslaw08.FormulaPrunes", spec := "formulaPrunes", unfollowed := true, recurses := true, loops := true, apart := false, narrowed := true }
def FormulaPrunesUptoSaid : Prop := formulaPrunesUptoRow.holds Try.pinned (OpenSpec.upto formulaPrunesSpec)

/-- 'clusterlockslaw08.FormulaMinimal', WHERE WHAT IT READS IS OF BULK AT MOST 1048576: true; the input reads as it did. -/
def formulaMinimalUptoRow : OpenClaim := { program := "ytmboojbhnmdnkaa", sum := "4e56a2121c8536f5611926ba400684bbc4892598058e4096f549430f1486610e", func := "clusterlocks/clusterlockslaw08.FormulaMinimal", spec := "formulaMinimal", unfollowed := true, recurses := true, loops := true, apart := false, narrowed := true }
def FormulaMinimalUptoSaid : Prop := formulaMinimalUptoRow.holds Try.pinned (OpenSpec.upto formulaMinimalSpec)

/-- 'clusterlockslaw08.FormulaClass', WHERE WHAT IT READS IS OF BULK AT MOST 1048576: true; the input reads as it did. -/
def formulaClassUptoRow : OpenClaim := { program := "ytmboojbhnmdnkaa", sum := "4e56a2121c8536f5611926ba400684bbc4892598058e4096f549430f1486610e", func := "clusterlocks/clusterlockslaw08.FormulaClass", spec := "formulaClass", unfollowed := true, recurses := true, loops := true, apart := false, narrowed := true }
def FormulaClassUptoSaid : Prop := formulaClassUptoRow.holds Try.pinned (OpenSpec.upto formulaClassSpec)

/-- 'clusterlockslaw08.FormulaPure', WHERE WHAT IT READS IS OF BULK AT MOST 1048576: true; the input reads as it did. -/
def formulaPureUptoRow : OpenClaim := { program := "ytmboojbhnmdnkaa", sum := "4e56a2121c8536f5611926ba400684bbc4892598058e4096f549430f1486610e", func := "clusterlocks/clusterlockslaw08.FormulaPure", spec := "formulaPure", unfollowed := true, recurses := true, apart := false, narrowed := true }
def FormulaPureUptoSaid : Prop := formulaPureUptoRow.holds Try.pinned (OpenSpec.upto formulaPureSpec)

/-- 'clusterlockslaw08.FormulaResolves', WHERE WHAT IT READS IS OF BULK AT MOST 1048576: true; the input reads as it did. -/
def formulaResolvesUptoRow : OpenClaim := { program := "ytmboojbhnmdnkaa", sum := "4e56a2121c8536f5611926ba400684bbc4892598058e4096f549430f1486610e", func := "clusterlocks/clusterlockslaw08.FormulaResolves", spec := "formulaResolves", unfollowed := true, recurses := true, loops := true, apart := false, narrowed := true }
def FormulaResolvesUptoSaid : Prop := formulaResolvesUptoRow.holds Try.pinned (OpenSpec.upto formulaResolvesSpec)

/-- 'clusterlockslaw08.FormulaCatalogs', WHERE WHAT IT READS IS OF BULK AT MOST 1048576: true; the input reads as it did. -/
def formulaCatalogsUptoRow : OpenClaim := { program := "ytmboojbhnmdnkaa", sum := "4e56a2121c8536f5611926ba400684bbc4892598058e4096f549430f1486610e", func := "clusterlocks/clusterlockslaw08.FormulaCatalogs", spec := "formulaCatalogs", unfollowed := true, recurses := true, apart := false, narrowed := true }
def FormulaCatalogsUptoSaid : Prop := formulaCatalogsUptoRow.holds Try.pinned (OpenSpec.upto formulaCatalogsSpec)

end Rows
end Go.Proofs.Ytmboojbhnmdnkaa
