
/- What every final step shares: the table of compatible modes out of the row's list, a world that holds it. -/
import Derived.Test.YtghhmooknjoblaaDoorRows
import Derived.Test.YtghhmooknjoblaaDoorMw
import Derived.WalkKit
import Derived.ProofKit
import Derived.OpenShut
import Derived.ShutString
import Derived.ChangeOld
import Derived.Deep.DeepHandedRow
import Derived.Lib.LaidTab
namespace Go.Proofs.YtghhmooknjoblaaDoor
open Go.ChangeShapes Go.WideShapes Go.ChangeAt Go.RowKit
theorem own : ownKnob Tryd.prog.godebug = none := by kernel_rfl
theorem laidOut : laidOutB Tryd.prog = true := by kernel_rfl
theorem gTab : Tryd.prog.globalNamed "clusterlocks/mode.together" = some 0 := by kernel_rfl
theorem gTabType : (Tryd.prog.globals[0]?).map (·.type) = some 46 := by kernel_rfl
theorem cellsTab : Tryd.prog.cellsOf 46 = 25 := by kernel_rfl
theorem cellsRow : Tryd.prog.cellsOf 45 = 5 := by kernel_rfl
theorem cellsBool : Tryd.prog.cellsOf 4 = 1 := by kernel_rfl
theorem trod_bool_at {H : Type} {enc : TypeId × Value → H} {w : World} {base : Nat} {sp : Nat → Bool} {held : Bool} {fuel : Nat} {c : List Value} {b : Bool} {p : List MemPlace}
    (h : DataW.trod enc Tryd.prog w base sp held fuel 4 c = some (.lit (.bool b), p)) : c = [.bool b] := by
  cases fuel with
  | zero => simp [DataW.trod] at h
  | succ m =>
    unfold DataW.trod at h
    rw [Tryd.underlying4] at h
    split at h <;> simp_all
theorem tab_of_met {W : World} {rest : List (String × DataW Unit)} (h' : laidMet Tryd.prog (("clusterlocks/mode.together", Rows.laid_clusterlocks_mode_together) :: rest) W) : Tab W := by
  obtain ⟨ps, ⟨g', t', cs, fuel, p, q, hg', ht', hvar, hd, _, _⟩, _⟩ := h'
  obtain rfl := Option.some.inj (gTab.symm.trans hg')
  obtain rfl := Option.some.inj (gTabType.symm.trans ht')
  obtain ⟨xs, m, rfl, hx, hcl, hxl, hi⟩ := DataW.trod_array Tryd.underlying46 hd
  simp only [Prod.mk.injEq, Rows.laid_clusterlocks_mode_together, DataW.agg.injEq] at hx
  intro i j hi5 hj5
  have h1 := hi i hi5
  have h2 : xs[i]? = some xs[i] := List.getElem?_eq_getElem (by omega)
  rw [h2] at h1
  obtain ⟨ys, m', _, hy, hcl', hyl, hj⟩ := DataW.trod_array Tryd.underlying45 h1
  have h3 := hj j hj5
  have h4 : ys[j]? = some ys[j] := List.getElem?_eq_getElem (by omega)
  rw [h4] at h3
  have hrow : ∃ b, (xs.map (·.1))[i]? = some (.agg (ys.map (·.1))) ∧ ((ys.map (·.1))[j]? = some b ∧ b = ys[j].1) := ⟨_, by simp [h2, hy], by simp [h4], rfl⟩
  obtain ⟨b, hb1, hb2, hb3⟩ := hrow
  have hb : b = .lit (.bool (CL.cmp (i + 1 : Nat) (j + 1 : Nat))) := by
    rw [← hx.1] at hb1
    have ei : i = 0 ∨ i = 1 ∨ i = 2 ∨ i = 3 ∨ i = 4 := by omega
    have ej : j = 0 ∨ j = 1 ∨ j = 2 ∨ j = 3 ∨ j = 4 := by omega
    rcases ei with rfl | rfl | rfl | rfl | rfl <;> simp at hb1 <;> rw [← hb1] at hb2 <;> rcases ej with rfl | rfl | rfl | rfl | rfl <;> simp at hb2 <;> rw [← hb2] <;> rfl
  have h5 : ys[j] = (.lit (.bool (CL.cmp (i + 1 : Nat) (j + 1 : Nat))), ys[j].2) := by rw [← hb, hb3]
  rw [h5] at h3
  have h6 := trod_bool_at h3
  rw [World.var?_cell gTab hvar]
  rw [cellsRow, cellsBool] at h6
  have h7 := congrArg (·[0]?) h6
  simp [List.getElem?_take, List.getElem?_drop] at h7
  simpa using h7.2
theorem tab_of {W : World} (h : laidMetH Tryd.prog [("clusterlocks/mode.together", Rows.laid_clusterlocks_mode_together)] W) : Tab W := tab_of_met (rest := []) h
theorem cellsInt : Tryd.prog.cellsOf 3 = 1 := by kernel_rfl
/-- a world that holds the table -/
noncomputable def laidWorld (os : Os) : World :=
  { World.holding Tryd.prog os ⟨#[], #[], []⟩ with heap := (World.holding Tryd.prog os ⟨#[], #[], []⟩).heap.modify 0 fun
      | .cells _ t frozen => .cells #[.bool true, .bool true, .bool true, .bool true, .bool false, .bool true, .bool true, .bool false, .bool false, .bool false, .bool true, .bool false, .bool true, .bool false, .bool false, .bool true, .bool false, .bool false, .bool false, .bool false, .bool false, .bool false, .bool false, .bool false, .bool false] t frozen
      | o => o }
end Go.Proofs.YtghhmooknjoblaaDoor
