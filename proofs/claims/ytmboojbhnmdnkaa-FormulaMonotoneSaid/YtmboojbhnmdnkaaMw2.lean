
/- The walks of package mode and of its reference, second part: Format, Parse, Group, Conflicts, and the reference's Covers, Compatible, Sup. -/
import Derived.Test.YtmboojbhnmdnkaaMw
namespace Go.Proofs.Ytmboojbhnmdnkaa
open Go.RowKit
def vstr (l : List UInt8) : Value := .string ⟨l.toArray⟩
def NoNm (s : List UInt8) (k : Int) : Prop := ∀ j, 1 ≤ j → j < k → (CL.nm j == s) = false
end Go.Proofs.Ytmboojbhnmdnkaa
