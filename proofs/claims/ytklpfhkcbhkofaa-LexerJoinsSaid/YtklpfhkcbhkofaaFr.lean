
/- What every final step shares: the table of compatible modes out of the row's list, a world that holds it. -/
import Derived.Test.YtklpfhkcbhkofaaRows
import Derived.Test.YtklpfhkcbhkofaaMw
import Derived.WalkKit
import Derived.ProofKit
import Derived.OpenShut
import Derived.ShutString
import Derived.ChangeOld
import Derived.Deep.DeepHandedRow
import Derived.Lib.LaidTab
namespace Go.Proofs.Ytklpfhkcbhkofaa
open Go.ChangeShapes Go.WideShapes Go.ChangeAt Go.RowKit
theorem own : ownKnob Try.prog.godebug = none := by kernel_rfl
theorem laidOut : laidOutB Try.prog = true := by kernel_rfl
theorem cellsBool : Try.prog.cellsOf 4 = 1 := by kernel_rfl
theorem trod_bool_at {H : Type} {enc : TypeId × Value → H} {w : World} {base : Nat} {sp : Nat → Bool} {held : Bool} {fuel : Nat} {c : List Value} {b : Bool} {p : List MemPlace}
    (h : DataW.trod enc Try.prog w base sp held fuel 4 c = some (.lit (.bool b), p)) : c = [.bool b] := by
  cases fuel with
  | zero => simp [DataW.trod] at h
  | succ m =>
    unfold DataW.trod at h
    rw [Try.underlying4] at h
    split at h <;> simp_all
theorem cellsInt : Try.prog.cellsOf 3 = 1 := by kernel_rfl
end Go.Proofs.Ytklpfhkcbhkofaa
