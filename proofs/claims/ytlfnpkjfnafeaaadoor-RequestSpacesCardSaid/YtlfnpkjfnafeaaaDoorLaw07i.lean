
/- RequestSpaces: the walk, with the reference's Tokens. -/
import Derived.Test.YtlfnpkjfnafeaaaDoorLaw07g
import Derived.Test.YtlfnpkjfnafeaaaDoorLw6
namespace Go.Proofs.YtlfnpkjfnafeaaaDoor
open Go.RowKit
theorem RequestSpaces_w (s : List UInt8) (n : Int) (w : World) (hT : T10 w) (hs : s.length ≤ maxLen) :
    Calls Tryd.prog 8 #[.string ⟨s.toArray⟩, .int .i64 n] w fun r w' => r = .returned (.bool true) ∧ Ext w w' :=
  RequestSpaces_h RTokens_c s n w hT hs
end Go.Proofs.YtlfnpkjfnafeaaaDoor
