/-
  No cell of these rows narrows 'for every input' (looked for: loops, veiled, ifaces, maps, wideKeys, modest, calm, conditions, laid).
  DERIVED. THE GIVEN ROWS OF THIS SEAT. 6 by the template 'for every input the law returns true; each argument reads behind the call as it read before'; 0 by the template 'total and deterministic' (their statements: YtklpfhkcbhkofaaTotals.lean).
  GIVEN WITH THE SEED: the statements are not yours to turn. If you find one false, say at which input.
  Laid BY PROGRAM, IN A SANDBOX (cutbox-rows.mjs): the forced cells as the released guide's own fill.sh prints them over the translation 0082ad25af6c06c8… (all of the seat's roots in one cut). By AI agents, Wed Nov 11 2026. No macro, syntax, notation, axiom, sorry.
-/
import Derived.Test.YtklpfhkcbhkofaaChecked
import GoSem.Claim
import GoSem.ClaimJoined
import GoSem.ClaimMapViews
import Derived.JoinedTies
import Derived.KernelRfl
namespace Go.Proofs.Ytklpfhkcbhkofaa
/- THE CELL 'sum', in the pinned program and in every row, IS THE sha256 OF THE DUMP (.gsa) THAT YtklpfhkcbhkofaaProg.lean LOADS. Nothing in Lean hashes anything: it is a label: what it is worth is what the hold of that sum in a sandbox is worth. -/
noncomputable def Try.pinned : Pinned := { name := "ytklpfhkcbhkofaa", sum := "0082ad25af6c06c8d9bb94a8886f7539b2446c1292b16b8977de99118ef01fe7", checked := Try.checked }
namespace Rows
def none {H : Type} : Left H := { results := [], args := [] }

/-- 'clusterlockslaw06.LexerTokens': WHATEVER THE INPUT: true; the input reads as it did. -/
def lexerTokensSpec : ChangeSpec := { name := "lexerTokens", fn := fun _ => fun
  | [d] => { results := [.lit (.bool true)], args := [d] }
  | _ => none }
def lexerTokensRow : OpenClaim := { program := "ytklpfhkcbhkofaa", sum := "0082ad25af6c06c8d9bb94a8886f7539b2446c1292b16b8977de99118ef01fe7", func := "clusterlocks/clusterlockslaw06.LexerTokens", spec := "lexerTokens", unfollowed := true, recurses := true, apart := false }
def LexerTokensSaid : Prop := lexerTokensRow.holds Try.pinned (OpenSpec.ofChange lexerTokensSpec)

/-- ITS FALSE NEIGHBOUR: 'it returns false'. Refute it at one input. -/
def lexerTokensWrong : ChangeSpec := { name := "lexerTokens", fn := fun _ => fun
  | [d] => { results := [.lit (.bool false)], args := [d] }
  | _ => none }
def LexerTokensWrongFalsely : Prop := lexerTokensRow.holds Try.pinned (OpenSpec.ofChange lexerTokensWrong)

/-- 'clusterlockslaw06.LexerSpace': WHATEVER THE INPUT: true; the input reads as it did. -/
def lexerSpaceSpec : ChangeSpec := { name := "lexerSpace", fn := fun _ => fun
  | [d] => { results := [.lit (.bool true)], args := [d] }
  | _ => none }
def lexerSpaceRow : OpenClaim := { program := "ytklpfhkcbhkofaa", sum := "0082ad25af6c06c8d9bb94a8886f7539b2446c1292b16b8977de99118ef01fe7", func := "clusterlocks/clusterlockslaw06.LexerSpace", spec := "lexerSpace", unfollowed := true, recurses := true, apart := false }
def LexerSpaceSaid : Prop := lexerSpaceRow.holds Try.pinned (OpenSpec.ofChange lexerSpaceSpec)

/-- ITS FALSE NEIGHBOUR: 'it returns false'. Refute it at one input. -/
def lexerSpaceWrong : ChangeSpec := { name := "lexerSpace", fn := fun _ => fun
  | [d] => { results := [.lit (.bool false)], args := [d] }
  | _ => none }
def LexerSpaceWrongFalsely : Prop := lexerSpaceRow.holds Try.pinned (OpenSpec.ofChange lexerSpaceWrong)

/-- 'clusterlockslaw06.LexerJoins': WHATEVER THE INPUT: true; the input reads as it did. -/
def lexerJoinsSpec : ChangeSpec := { name := "lexerJoins", fn := fun _ => fun
  | [d] => { results := [.lit (.bool true)], args := [d] }
  | _ => none }
def lexerJoinsRow : OpenClaim := { program := "ytklpfhkcbhkofaa", sum := "0082ad25af6c06c8d9bb94a8886f7539b2446c1292b16b8977de99118ef01fe7", func := "clusterlocks/clusterlockslaw06.LexerJoins", spec := "lexerJoins", unfollowed := true, recurses := true, apart := false }
def LexerJoinsSaid : Prop := lexerJoinsRow.holds Try.pinned (OpenSpec.ofChange lexerJoinsSpec)

/-- ITS FALSE NEIGHBOUR: 'it returns false'. Refute it at one input. -/
def lexerJoinsWrong : ChangeSpec := { name := "lexerJoins", fn := fun _ => fun
  | [d] => { results := [.lit (.bool false)], args := [d] }
  | _ => none }
def LexerJoinsWrongFalsely : Prop := lexerJoinsRow.holds Try.pinned (OpenSpec.ofChange lexerJoinsWrong)

/-- 'clusterlockslaw06.LexerPads': WHATEVER THE INPUT: true; the input reads as it did. -/
def lexerPadsSpec : ChangeSpec := { name := "lexerPads", fn := fun _ => fun
  | [d1, d2] => { results := [.lit (.bool true)], args := [d1, d2] }
  | _ => none }
def lexerPadsRow : OpenClaim := { program := "ytklpfhkcbhkofaa", sum := "0082ad25af6c06c8d9bb94a8886f7539b2446c1292b16b8977de99118ef01fe7", func := "clusterlocks/clusterlockslaw06.LexerPads", spec := "lexerPads", unfollowed := true, recurses := true, apart := false }
def LexerPadsSaid : Prop := lexerPadsRow.holds Try.pinned (OpenSpec.ofChange lexerPadsSpec)

/-- ITS FALSE NEIGHBOUR: 'it returns false'. Refute it at one input. -/
def lexerPadsWrong : ChangeSpec := { name := "lexerPads", fn := fun _ => fun
  | [d1, d2] => { results := [.lit (.bool false)], args := [d1, d2] }
  | _ => none }
def LexerPadsWrongFalsely : Prop := lexerPadsRow.holds Try.pinned (OpenSpec.ofChange lexerPadsWrong)

/-- 'clusterlockslaw06.LexerPlaces': WHATEVER THE INPUT: true; the input reads as it did. -/
def lexerPlacesSpec : ChangeSpec := { name := "lexerPlaces", fn := fun _ => fun
  | [d] => { results := [.lit (.bool true)], args := [d] }
  | _ => none }
def lexerPlacesRow : OpenClaim := { program := "ytklpfhkcbhkofaa", sum := "0082ad25af6c06c8d9bb94a8886f7539b2446c1292b16b8977de99118ef01fe7", func := "clusterlocks/clusterlockslaw06.LexerPlaces", spec := "lexerPlaces", unfollowed := true, recurses := true, apart := false }
def LexerPlacesSaid : Prop := lexerPlacesRow.holds Try.pinned (OpenSpec.ofChange lexerPlacesSpec)

/-- ITS FALSE NEIGHBOUR: 'it returns false'. Refute it at one input. -/
def lexerPlacesWrong : ChangeSpec := { name := "lexerPlaces", fn := fun _ => fun
  | [d] => { results := [.lit (.bool false)], args := [d] }
  | _ => none }
def LexerPlacesWrongFalsely : Prop := lexerPlacesRow.holds Try.pinned (OpenSpec.ofChange lexerPlacesWrong)

/-- 'clusterlockslaw06.LexerNumbers': WHATEVER THE INPUT: true; the input reads as it did. -/
def lexerNumbersSpec : ChangeSpec := { name := "lexerNumbers", fn := fun _ => fun
  | [d1, d2] => { results := [.lit (.bool true)], args := [d1, d2] }
  | _ => none }
def lexerNumbersRow : OpenClaim := { program := "ytklpfhkcbhkofaa", sum := "0082ad25af6c06c8d9bb94a8886f7539b2446c1292b16b8977de99118ef01fe7", func := "clusterlocks/clusterlockslaw06.LexerNumbers", spec := "lexerNumbers", unfollowed := true, recurses := true, apart := false }
def LexerNumbersSaid : Prop := lexerNumbersRow.holds Try.pinned (OpenSpec.ofChange lexerNumbersSpec)

/-- ITS FALSE NEIGHBOUR: 'it returns false'. Refute it at one input. -/
def lexerNumbersWrong : ChangeSpec := { name := "lexerNumbers", fn := fun _ => fun
  | [d1, d2] => { results := [.lit (.bool false)], args := [d1, d2] }
  | _ => none }
def LexerNumbersWrongFalsely : Prop := lexerNumbersRow.holds Try.pinned (OpenSpec.ofChange lexerNumbersWrong)

/- THE SECOND FORM. 'bulk': how many values and letters a reading holds, each counted each time it is reached (what is shared counts as often as it is met; a slice's spare places count too). A statement '..UptoSaid' is the law's where the arguments, and the package variables that the reading takes, are together of bulk at most 1048576: NARROWER than '..Said'. Prove '..Said' where nothing that the law and all that it calls make is longer than what came in: it says more and counts as full. Else prove '..UptoSaid'. A law counts once. -/
mutual
def uptoBulk {H : Type} : DataW H → Nat
  | .lit (.string bytes) => bytes.length + 1
  | .lit _ => 1
  | .nil => 1
  | .ptr d => uptoBulk d + 1
  | .slice elems spare => uptoBulkAll elems + uptoBulkAll spare + 1
  | .agg parts => uptoBulkAll parts + 1
  | .iface _ d => uptoBulk d + 1
  | .map entries => uptoBulkEntries entries + 1
  | .held _ => 1
def uptoBulkAll {H : Type} : List (DataW H) → Nat
  | [] => 0
  | d :: r => uptoBulk d + uptoBulkAll r
def uptoBulkEntries {H : Type} : List (Lit × DataW H) → Nat
  | [] => 0
  | x :: r => uptoBulkEntry x + uptoBulkEntries r
def uptoBulkEntry {H : Type} : Lit × DataW H → Nat
  | (.string bytes, d) => bytes.length + uptoBulk d + 1
  | (_, d) => uptoBulk d + 1
 end
def uptoSmall : (H : Type) → List (DataW H) → Bool := fun _ ds => decide (uptoBulkAll ds ≤ 1048576)
def OpenSpec.upto (s : _root_.Go.ChangeSpec) : _root_.Go.OpenSpec := { _root_.Go.OpenSpec.ofChange s with cond := some uptoSmall }

/-- 'clusterlockslaw06.LexerTokens', WHERE WHAT IT READS IS OF BULK AT MOST 1048576: true; the input reads as it did. -/
def lexerTokensUptoRow : OpenClaim := { program := "ytklpfhkcbhkofaa", sum := "0082ad25af6c06c8d9bb94a8886f7539b2446c1292b16b8977de99118ef01fe7", func := "clusterlocks/clusterlockslaw06.LexerTokens", spec := "lexerTokens", unfollowed := true, recurses := true, apart := false, narrowed := true }
def LexerTokensUptoSaid : Prop := lexerTokensUptoRow.holds Try.pinned (OpenSpec.upto lexerTokensSpec)

/-- 'clusterlockslaw06.LexerSpace', WHERE WHAT IT READS IS OF BULK AT MOST 1048576: true; the input reads as it did. -/
def lexerSpaceUptoRow : OpenClaim := { program := "ytklpfhkcbhkofaa", sum := "0082ad25af6c06c8d9bb94a8886f7539b2446c1292b16b8977de99118ef01fe7", func := "clusterlocks/clusterlockslaw06.LexerSpace", spec := "lexerSpace", unfollowed := true, recurses := true, apart := false, narrowed := true }
def LexerSpaceUptoSaid : Prop := lexerSpaceUptoRow.holds Try.pinned (OpenSpec.upto lexerSpaceSpec)

/-- 'clusterlockslaw06.LexerJoins', WHERE WHAT IT READS IS OF BULK AT MOST 1048576: true; the input reads as it did. -/
def lexerJoinsUptoRow : OpenClaim := { program := "ytklpfhkcbhkofaa", sum := "0082ad25af6c06c8d9bb94a8886f7539b2446c1292b16b8977de99118ef01fe7", func := "clusterlocks/clusterlockslaw06.LexerJoins", spec := "lexerJoins", unfollowed := true, recurses := true, apart := false, narrowed := true }
def LexerJoinsUptoSaid : Prop := lexerJoinsUptoRow.holds Try.pinned (OpenSpec.upto lexerJoinsSpec)

/-- 'clusterlockslaw06.LexerPads', WHERE WHAT IT READS IS OF BULK AT MOST 1048576: true; the input reads as it did. -/
def lexerPadsUptoRow : OpenClaim := { program := "ytklpfhkcbhkofaa", sum := "0082ad25af6c06c8d9bb94a8886f7539b2446c1292b16b8977de99118ef01fe7", func := "clusterlocks/clusterlockslaw06.LexerPads", spec := "lexerPads", unfollowed := true, recurses := true, apart := false, narrowed := true }
def LexerPadsUptoSaid : Prop := lexerPadsUptoRow.holds Try.pinned (OpenSpec.upto lexerPadsSpec)

/-- 'clusterlockslaw06.LexerPlaces', WHERE WHAT IT READS IS OF BULK AT MOST 1048576: true; the input reads as it did. -/
def lexerPlacesUptoRow : OpenClaim := { program := "ytklpfhkcbhkofaa", sum := "0082ad25af6c06c8d9bb94a8886f7539b2446c1292b16b8977de99118ef01fe7", func := "clusterlocks/clusterlockslaw06.LexerPlaces", spec := "lexerPlaces", unfollowed := true, recurses := true, apart := false, narrowed := true }
def LexerPlacesUptoSaid : Prop := lexerPlacesUptoRow.holds Try.pinned (OpenSpec.upto lexerPlacesSpec)

/-- 'clusterlockslaw06.LexerNumbers', WHERE WHAT IT READS IS OF BULK AT MOST 1048576: true; the input reads as it did. -/
def lexerNumbersUptoRow : OpenClaim := { program := "ytklpfhkcbhkofaa", sum := "0082ad25af6c06c8d9bb94a8886f7539b2446c1292b16b8977de99118ef01fe7", func := "clusterlocks/clusterlockslaw06.LexerNumbers", spec := "lexerNumbers", unfollowed := true, recurses := true, apart := false, narrowed := true }
def LexerNumbersUptoSaid : Prop := lexerNumbersUptoRow.holds Try.pinned (OpenSpec.upto lexerNumbersSpec)

end Rows
end Go.Proofs.Ytklpfhkcbhkofaa
