
/- Lists of numbers out of the arguments. -/
import Derived.Test.YtmolffigeobnnaaFr8
namespace Go.Proofs.Ytmolffigeobnnaa
open Go.ChangeShapes Go.WideShapes Go.ChangeAt Go.RowKit Go.Joins
set_option linter.unusedVariables false
set_option maxRecDepth 100000
set_option linter.unusedSimpArgs false
section
variable {H : Type} {enc : TypeId × Value → H} {w : World} {base : Nat} {sp : Nat → Bool} {held : Bool}
theorem open_ints_sits {A : Option Addr} {len cap : Nat} {d : DataW H} {p : List MemPlace} (h : DataW.Trod enc Try.prog w base sp held 38 (.slice A len cap) d p) : ∃ l : List Int, len = l.length ∧ len ≤ cap ∧ cap ≤ maxLen ∧ Sits w A (ints l) := by
  obtain ⟨fuel, hf⟩ := h
  obtain ⟨A', l, cap', e, h1, h2, h3⟩ := open_list (fun b : Int => [Value.int .i64 b]) Try.underlying38 cellsInt (by decide) (fun n v y h => by
    obtain ⟨b, e, _⟩ := DataW.trod_int Try.underlying3 h
    exact ⟨b, e⟩) hf
  simp only [Value.cells, List.cons.injEq, Value.slice.injEq, and_true] at e
  obtain ⟨rfl, rfl, rfl⟩ := e
  refine ⟨l, rfl, h1, h2, ?_⟩
  unfold ints
  rw [List.map_eq_flatMap]; exact h3
end
end Go.Proofs.Ytmolffigeobnnaa
