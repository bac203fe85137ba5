/-
  No cell of these rows narrows 'for every input' (looked for: loops, veiled, ifaces, maps, wideKeys, modest, calm, conditions, laid).
  DERIVED. THE GIVEN ROWS OF THIS SEAT. 9 by the template 'for every input the law returns true; each argument reads behind the call as it read before'; 0 by the template 'total and deterministic' (their statements: YtaebindbadfaaaaTotals.lean).
  GIVEN WITH THE SEED: the statements are not yours to turn. If you find one false, say at which input.
  Laid BY PROGRAM, IN A SANDBOX (cutbox-rows.mjs): the forced cells as the released guide's own fill.sh prints them over the translation 44958f57b6670acc… (all of the seat's roots in one cut). By AI agents, Wed Nov 11 2026. No macro, syntax, notation, axiom, sorry.
-/
import Derived.Test.YtaebindbadfaaaaChecked
import GoSem.Claim
import GoSem.ClaimJoined
import GoSem.ClaimMapViews
import Derived.JoinedTies
import Derived.KernelRfl
namespace Go.Proofs.Ytaebindbadfaaaa
/- THE CELL 'sum', in the pinned program and in every row, IS THE sha256 OF THE DUMP (.gsa) THAT YtaebindbadfaaaaProg.lean LOADS. Nothing in Lean hashes anything: it is a label: what it is worth is what the hold of that sum in a sandbox is worth. -/
noncomputable def Try.pinned : Pinned := { name := "ytaebindbadfaaaa", sum := "44958f57b6670acc67091d043c2aa99b8249e0d32cd8ef41a5f486802beee0ed", checked := Try.checked }
namespace Rows
def none {H : Type} : Left H := { results := [], args := [] }

/-- 'clusterlockslaw14.LedgerGrows': WHATEVER THE INPUT: true; the input reads as it did. -/
def ledgerGrowsSpec : ChangeSpec := { name := "ledgerGrows", fn := fun _ => fun
  | [d1, d2, d3] => { results := [.lit (.bool true)], args := [d1, d2, d3] }
  | _ => none }
def ledgerGrowsRow : OpenClaim := { program := "ytaebindbadfaaaa", sum := "44958f57b6670acc67091d043c2aa99b8249e0d32cd8ef41a5f486802beee0ed", func := "clusterlocks/clusterlockslaw14.LedgerGrows", spec := "ledgerGrows", inPlace := ["internal/bytealg.abigen_runtime_cmpstring"], unfollowed := true, recurses := true, apart := false }
def LedgerGrowsSaid : Prop := ledgerGrowsRow.holds Try.pinned (OpenSpec.ofChange ledgerGrowsSpec)

/-- ITS FALSE NEIGHBOUR: 'it returns false'. Refute it at one input. -/
def ledgerGrowsWrong : ChangeSpec := { name := "ledgerGrows", fn := fun _ => fun
  | [d1, d2, d3] => { results := [.lit (.bool false)], args := [d1, d2, d3] }
  | _ => none }
def LedgerGrowsWrongFalsely : Prop := ledgerGrowsRow.holds Try.pinned (OpenSpec.ofChange ledgerGrowsWrong)

/-- 'clusterlockslaw14.LedgerRecords': WHATEVER THE INPUT: true; the input reads as it did. -/
def ledgerRecordsSpec : ChangeSpec := { name := "ledgerRecords", fn := fun _ => fun
  | [d1, d2, d3] => { results := [.lit (.bool true)], args := [d1, d2, d3] }
  | _ => none }
def ledgerRecordsRow : OpenClaim := { program := "ytaebindbadfaaaa", sum := "44958f57b6670acc67091d043c2aa99b8249e0d32cd8ef41a5f486802beee0ed", func := "clusterlocks/clusterlockslaw14.LedgerRecords", spec := "ledgerRecords", inPlace := ["internal/bytealg.abigen_runtime_cmpstring"], unfollowed := true, recurses := true, apart := false }
def LedgerRecordsSaid : Prop := ledgerRecordsRow.holds Try.pinned (OpenSpec.ofChange ledgerRecordsSpec)

/-- ITS FALSE NEIGHBOUR: 'it returns false'. Refute it at one input. -/
def ledgerRecordsWrong : ChangeSpec := { name := "ledgerRecords", fn := fun _ => fun
  | [d1, d2, d3] => { results := [.lit (.bool false)], args := [d1, d2, d3] }
  | _ => none }
def LedgerRecordsWrongFalsely : Prop := ledgerRecordsRow.holds Try.pinned (OpenSpec.ofChange ledgerRecordsWrong)

/-- 'clusterlockslaw14.LedgerUndoes': WHATEVER THE INPUT: true; the input reads as it did. -/
def ledgerUndoesSpec : ChangeSpec := { name := "ledgerUndoes", fn := fun _ => fun
  | [d1, d2] => { results := [.lit (.bool true)], args := [d1, d2] }
  | _ => none }
def ledgerUndoesRow : OpenClaim := { program := "ytaebindbadfaaaa", sum := "44958f57b6670acc67091d043c2aa99b8249e0d32cd8ef41a5f486802beee0ed", func := "clusterlocks/clusterlockslaw14.LedgerUndoes", spec := "ledgerUndoes", inPlace := ["internal/bytealg.abigen_runtime_cmpstring"], unfollowed := true, recurses := true, apart := false }
def LedgerUndoesSaid : Prop := ledgerUndoesRow.holds Try.pinned (OpenSpec.ofChange ledgerUndoesSpec)

/-- ITS FALSE NEIGHBOUR: 'it returns false'. Refute it at one input. -/
def ledgerUndoesWrong : ChangeSpec := { name := "ledgerUndoes", fn := fun _ => fun
  | [d1, d2] => { results := [.lit (.bool false)], args := [d1, d2] }
  | _ => none }
def LedgerUndoesWrongFalsely : Prop := ledgerUndoesRow.holds Try.pinned (OpenSpec.ofChange ledgerUndoesWrong)

/-- 'clusterlockslaw14.LedgerScripts': WHATEVER THE INPUT: true; the input reads as it did. -/
def ledgerScriptsSpec : ChangeSpec := { name := "ledgerScripts", fn := fun _ => fun
  | [d] => { results := [.lit (.bool true)], args := [d] }
  | _ => none }
def ledgerScriptsRow : OpenClaim := { program := "ytaebindbadfaaaa", sum := "44958f57b6670acc67091d043c2aa99b8249e0d32cd8ef41a5f486802beee0ed", func := "clusterlocks/clusterlockslaw14.LedgerScripts", spec := "ledgerScripts", inPlace := ["internal/bytealg.abigen_runtime_cmpstring"], unfollowed := true, recurses := true, apart := false }
def LedgerScriptsSaid : Prop := ledgerScriptsRow.holds Try.pinned (OpenSpec.ofChange ledgerScriptsSpec)

/-- ITS FALSE NEIGHBOUR: 'it returns false'. Refute it at one input. -/
def ledgerScriptsWrong : ChangeSpec := { name := "ledgerScripts", fn := fun _ => fun
  | [d] => { results := [.lit (.bool false)], args := [d] }
  | _ => none }
def LedgerScriptsWrongFalsely : Prop := ledgerScriptsRow.holds Try.pinned (OpenSpec.ofChange ledgerScriptsWrong)

/-- 'clusterlockslaw14.LedgerBack': WHATEVER THE INPUT: true; the input reads as it did. -/
def ledgerBackSpec : ChangeSpec := { name := "ledgerBack", fn := fun _ => fun
  | [d1, d2, d3] => { results := [.lit (.bool true)], args := [d1, d2, d3] }
  | _ => none }
def ledgerBackRow : OpenClaim := { program := "ytaebindbadfaaaa", sum := "44958f57b6670acc67091d043c2aa99b8249e0d32cd8ef41a5f486802beee0ed", func := "clusterlocks/clusterlockslaw14.LedgerBack", spec := "ledgerBack", inPlace := ["internal/bytealg.abigen_runtime_cmpstring"], unfollowed := true, recurses := true, apart := false }
def LedgerBackSaid : Prop := ledgerBackRow.holds Try.pinned (OpenSpec.ofChange ledgerBackSpec)

/-- ITS FALSE NEIGHBOUR: 'it returns false'. Refute it at one input. -/
def ledgerBackWrong : ChangeSpec := { name := "ledgerBack", fn := fun _ => fun
  | [d1, d2, d3] => { results := [.lit (.bool false)], args := [d1, d2, d3] }
  | _ => none }
def LedgerBackWrongFalsely : Prop := ledgerBackRow.holds Try.pinned (OpenSpec.ofChange ledgerBackWrong)

/-- 'clusterlockslaw14.LedgerValid': WHATEVER THE INPUT: true; the input reads as it did. -/
def ledgerValidSpec : ChangeSpec := { name := "ledgerValid", fn := fun _ => fun
  | [d1, d2] => { results := [.lit (.bool true)], args := [d1, d2] }
  | _ => none }
def ledgerValidRow : OpenClaim := { program := "ytaebindbadfaaaa", sum := "44958f57b6670acc67091d043c2aa99b8249e0d32cd8ef41a5f486802beee0ed", func := "clusterlocks/clusterlockslaw14.LedgerValid", spec := "ledgerValid", inPlace := ["internal/bytealg.abigen_runtime_cmpstring"], unfollowed := true, recurses := true, apart := false }
def LedgerValidSaid : Prop := ledgerValidRow.holds Try.pinned (OpenSpec.ofChange ledgerValidSpec)

/-- ITS FALSE NEIGHBOUR: 'it returns false'. Refute it at one input. -/
def ledgerValidWrong : ChangeSpec := { name := "ledgerValid", fn := fun _ => fun
  | [d1, d2] => { results := [.lit (.bool false)], args := [d1, d2] }
  | _ => none }
def LedgerValidWrongFalsely : Prop := ledgerValidRow.holds Try.pinned (OpenSpec.ofChange ledgerValidWrong)

/-- 'clusterlockslaw14.LedgerAll': WHATEVER THE INPUT: true; the input reads as it did. -/
def ledgerAllSpec : ChangeSpec := { name := "ledgerAll", fn := fun _ => fun
  | [d] => { results := [.lit (.bool true)], args := [d] }
  | _ => none }
def ledgerAllRow : OpenClaim := { program := "ytaebindbadfaaaa", sum := "44958f57b6670acc67091d043c2aa99b8249e0d32cd8ef41a5f486802beee0ed", func := "clusterlocks/clusterlockslaw14.LedgerAll", spec := "ledgerAll", inPlace := ["internal/bytealg.abigen_runtime_cmpstring"], unfollowed := true, recurses := true, apart := false }
def LedgerAllSaid : Prop := ledgerAllRow.holds Try.pinned (OpenSpec.ofChange ledgerAllSpec)

/-- ITS FALSE NEIGHBOUR: 'it returns false'. Refute it at one input. -/
def ledgerAllWrong : ChangeSpec := { name := "ledgerAll", fn := fun _ => fun
  | [d] => { results := [.lit (.bool false)], args := [d] }
  | _ => none }
def LedgerAllWrongFalsely : Prop := ledgerAllRow.holds Try.pinned (OpenSpec.ofChange ledgerAllWrong)

/-- 'clusterlockslaw14.LedgerDrops': WHATEVER THE INPUT: true; the input reads as it did. -/
def ledgerDropsSpec : ChangeSpec := { name := "ledgerDrops", fn := fun _ => fun
  | [d1, d2] => { results := [.lit (.bool true)], args := [d1, d2] }
  | _ => none }
def ledgerDropsRow : OpenClaim := { program := "ytaebindbadfaaaa", sum := "44958f57b6670acc67091d043c2aa99b8249e0d32cd8ef41a5f486802beee0ed", func := "clusterlocks/clusterlockslaw14.LedgerDrops", spec := "ledgerDrops", inPlace := ["internal/bytealg.abigen_runtime_cmpstring"], unfollowed := true, recurses := true, apart := false }
def LedgerDropsSaid : Prop := ledgerDropsRow.holds Try.pinned (OpenSpec.ofChange ledgerDropsSpec)

/-- ITS FALSE NEIGHBOUR: 'it returns false'. Refute it at one input. -/
def ledgerDropsWrong : ChangeSpec := { name := "ledgerDrops", fn := fun _ => fun
  | [d1, d2] => { results := [.lit (.bool false)], args := [d1, d2] }
  | _ => none }
def LedgerDropsWrongFalsely : Prop := ledgerDropsRow.holds Try.pinned (OpenSpec.ofChange ledgerDropsWrong)

/-- 'clusterlockslaw14.LedgerForgets': WHATEVER THE INPUT: true; the input reads as it did. -/
def ledgerForgetsSpec : ChangeSpec := { name := "ledgerForgets", fn := fun _ => fun
  | [d1, d2, d3] => { results := [.lit (.bool true)], args := [d1, d2, d3] }
  | _ => none }
def ledgerForgetsRow : OpenClaim := { program := "ytaebindbadfaaaa", sum := "44958f57b6670acc67091d043c2aa99b8249e0d32cd8ef41a5f486802beee0ed", func := "clusterlocks/clusterlockslaw14.LedgerForgets", spec := "ledgerForgets", inPlace := ["internal/bytealg.abigen_runtime_cmpstring"], unfollowed := true, recurses := true, apart := false }
def LedgerForgetsSaid : Prop := ledgerForgetsRow.holds Try.pinned (OpenSpec.ofChange ledgerForgetsSpec)

/-- ITS FALSE NEIGHBOUR: 'it returns false'. Refute it at one input. -/
def ledgerForgetsWrong : ChangeSpec := { name := "ledgerForgets", fn := fun _ => fun
  | [d1, d2, d3] => { results := [.lit (.bool false)], args := [d1, d2, d3] }
  | _ => none }
def LedgerForgetsWrongFalsely : Prop := ledgerForgetsRow.holds Try.pinned (OpenSpec.ofChange ledgerForgetsWrong)

/- THE SECOND FORM. 'bulk': how many values and letters a reading holds, each counted each time it is reached (what is shared counts as often as it is met; a slice's spare places count too). A statement '..UptoSaid' is the law's where the arguments, and the package variables that the reading takes, are together of bulk at most 1048576: NARROWER than '..Said'. Prove '..Said' where nothing that the law and all that it calls make is longer than what came in: it says more and counts as full. Else prove '..UptoSaid'. A law counts once. -/
mutual
def uptoBulk {H : Type} : DataW H → Nat
  | .lit (.string bytes) => bytes.length + 1
  | .lit _ => 1
  | .nil => 1
  | .ptr d => uptoBulk d + 1
  | .slice elems spare => uptoBulkAll elems + uptoBulkAll spare + 1
  | .agg parts => uptoBulkAll parts + 1
  | .iface _ d => uptoBulk d + 1
  | .map entries => uptoBulkEntries entries + 1
  | .held _ => 1
def uptoBulkAll {H : Type} : List (DataW H) → Nat
  | [] => 0
  | d :: r => uptoBulk d + uptoBulkAll r
def uptoBulkEntries {H : Type} : List (Lit × DataW H) → Nat
  | [] => 0
  | x :: r => uptoBulkEntry x + uptoBulkEntries r
def uptoBulkEntry {H : Type} : Lit × DataW H → Nat
  | (.string bytes, d) => bytes.length + uptoBulk d + 1
  | (_, d) => uptoBulk d + 1
 end
def uptoSmall : (H : Type) → List (DataW H) → Bool := fun _ ds => decide (uptoBulkAll ds ≤ 1048576)
def OpenSpec.upto (s : _root_.Go.ChangeSpec) : _root_.Go.OpenSpec := { _root_.Go.OpenSpec.ofChange s with cond := some uptoSmall }

/-- 'clusterlockslaw14.LedgerGrows', WHERE WHAT IT READS IS OF BULK AT MOST 1048576: true; the input reads as it did. -/
def ledgerGrowsUptoRow : OpenClaim := { program := "ytaebindbadfaaaa", sum := "44958f57b6670acc67091d043c2aa99b8249e0d32cd8ef41a5f486802beee0ed", func := "clusterlocks/clusterlockslaw14.LedgerGrows", spec := "ledgerGrows", inPlace := ["internal/bytealg.abigen_runtime_cmpstring"], unfollowed := true, recurses := true, apart := false, narrowed := true }
def LedgerGrowsUptoSaid : Prop := ledgerGrowsUptoRow.holds Try.pinned (OpenSpec.upto ledgerGrowsSpec)

/-- 'clusterlockslaw14.LedgerRecords', WHERE WHAT IT READS IS OF BULK AT MOST 1048576: true; the input reads as it did. -/
def ledgerRecordsUptoRow : OpenClaim := { program := "ytaebindbadfaaaa", sum := "44958f57b6670acc67091d043c2aa99b8249e0d32cd8ef41a5f486802beee0ed", func := "clusterlocks/clusterlockslaw14.LedgerRecords", spec := "ledgerRecords", inPlace := ["internal/bytealg.abigen_runtime_cmpstring"], unfollowed := true, recurses := true, apart := false, narrowed := true }
def LedgerRecordsUptoSaid : Prop := ledgerRecordsUptoRow.holds Try.pinned (OpenSpec.upto ledgerRecordsSpec)

/-- 'clusterlockslaw14.LedgerUndoes', WHERE WHAT IT READS IS OF BULK AT MOST 1048576: true; the input reads as it did. -/
def ledgerUndoesUptoRow : OpenClaim := { program := "ytaebindbadfaaaa", sum := "44958f57b6670acc67091d043c2aa99b8249e0d32cd8ef41a5f486802beee0ed", func := "clusterlocks/clusterlockslaw14.LedgerUndoes", spec := "ledgerUndoes", inPlace := ["internal/bytealg.abigen_runtime_cmpstring"], unfollowed := true, recurses := true, apart := false, narrowed := true }
def LedgerUndoesUptoSaid : Prop := ledgerUndoesUptoRow.holds Try.pinned (OpenSpec.upto ledgerUndoesSpec)

/-- 'clusterlockslaw14.LedgerScripts', WHERE WHAT IT READS IS OF BULK AT MOST 1048576: true; the input reads as it did. -/
def ledgerScriptsUptoRow : OpenClaim := { program := "ytaebindbadfaaaa", sum := "44958f57b6670acc67091d043c2aa99b8249e0d32cd8ef41a5f486802beee0ed", func := "clusterlocks/clusterlockslaw14.LedgerScripts", spec := "ledgerScripts", inPlace := ["internal/bytealg.abigen_runtime_cmpstring"], unfollowed := true, recurses := true, apart := false, narrowed := true }
def LedgerScriptsUptoSaid : Prop := ledgerScriptsUptoRow.holds Try.pinned (OpenSpec.upto ledgerScriptsSpec)

/-- 'clusterlockslaw14.LedgerBack', WHERE WHAT IT READS IS OF BULK AT MOST 1048576: true; the input reads as it did. -/
def ledgerBackUptoRow : OpenClaim := { program := "ytaebindbadfaaaa", sum := "44958f57b6670acc67091d043c2aa99b8249e0d32cd8ef41a5f486802beee0ed", func := "clusterlocks/clusterlockslaw14.LedgerBack", spec := "ledgerBack", inPlace := ["internal/bytealg.abigen_runtime_cmpstring"], unfollowed := true, recurses := true, apart := false, narrowed := true }
def LedgerBackUptoSaid : Prop := ledgerBackUptoRow.holds Try.pinned (OpenSpec.upto ledgerBackSpec)

/-- 'clusterlockslaw14.LedgerValid', WHERE WHAT IT READS IS OF BULK AT MOST 1048576: true; the input reads as it did. -/
def ledgerValidUptoRow : OpenClaim := { program := "ytaebindbadfaaaa", sum := "44958f57b6670acc67091d043c2aa99b8249e0d32cd8ef41a5f486802beee0ed", func := "clusterlocks/clusterlockslaw14.LedgerValid", spec := "ledgerValid", inPlace := ["internal/bytealg.abigen_runtime_cmpstring"], unfollowed := true, recurses := true, apart := false, narrowed := true }
def LedgerValidUptoSaid : Prop := ledgerValidUptoRow.holds Try.pinned (OpenSpec.upto ledgerValidSpec)

/-- 'clusterlockslaw14.LedgerAll', WHERE WHAT IT READS IS OF BULK AT MOST 1048576: true; the input reads as it did. -/
def ledgerAllUptoRow : OpenClaim := { program := "ytaebindbadfaaaa", sum := "44958f57b6670acc67091d043c2aa99b8249e0d32cd8ef41a5f486802beee0ed", func := "clusterlocks/clusterlockslaw14.LedgerAll", spec := "ledgerAll", inPlace := ["internal/bytealg.abigen_runtime_cmpstring"], unfollowed := true, recurses := true, apart := false, narrowed := true }
def LedgerAllUptoSaid : Prop := ledgerAllUptoRow.holds Try.pinned (OpenSpec.upto ledgerAllSpec)

/-- 'clusterlockslaw14.LedgerDrops', WHERE WHAT IT READS IS OF BULK AT MOST 1048576: true; the input reads as it did. -/
def ledgerDropsUptoRow : OpenClaim := { program := "ytaebindbadfaaaa", sum := "44958f57b6670acc67091d043c2aa99b8249e0d32cd8ef41a5f486802beee0ed", func := "clusterlocks/clusterlockslaw14.LedgerDrops", spec := "ledgerDrops", inPlace := ["internal/bytealg.abigen_runtime_cmpstring"], unfollowed := true, recurses := true, apart := false, narrowed := true }
def LedgerDropsUptoSaid : Prop := ledgerDropsUptoRow.holds Try.pinned (OpenSpec.upto ledgerDropsSpec)

/-- 'clusterlockslaw14.LedgerForgets', WHERE WHAT IT READS IS OF BULK AT MOST 1048576: true; the input reads as it did. -/
def ledgerForgetsUptoRow : OpenClaim := { program := "ytaebindbadfaaaa", sum := "44958f57b6670acc67091d043c2aa99b8249e0d32cd8ef41a5f486802beee0ed", func := "clusterlocks/clusterlockslaw14.LedgerForgets", spec := "ledgerForgets", inPlace := ["internal/bytealg.abigen_runtime_cmpstring"], unfollowed := true, recurses := true, apart := false, narrowed := true }
def LedgerForgetsUptoSaid : Prop := ledgerForgetsUptoRow.holds Try.pinned (OpenSpec.upto ledgerForgetsSpec)

end Rows
end Go.Proofs.Ytaebindbadfaaaa
