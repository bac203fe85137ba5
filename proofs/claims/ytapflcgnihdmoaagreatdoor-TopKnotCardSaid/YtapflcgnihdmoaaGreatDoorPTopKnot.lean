/- Proves TopKnot of the given program: it states n processes, each of which holds a lock and claims some k of the others, are all deadlocked, whatever k; and that one more lock that nobody holds, among the claims of one of them with k 1, keeps all from it; the law returns true for every input and leaves its arguments as they were.
   Conditions: none on the arguments; the listed package-level variables start as the program lays them (the card ties them to its text). -/
import Derived.Test.YtapflcgnihdmoaaGreatDoorK7
namespace Go.Proofs.YtapflcgnihdmoaaGreatDoor.topKnot
open Go.ChangeShapes Go.WideShapes Go.ChangeAt Go.RowKit
open Go.ChangeMaps (open_string shut_string)
set_option linter.unusedVariables false
set_option maxRecDepth 100000
open X (own laidOut laidWorldT)
theorem j7 : (Rows.topKnotRow.inPlace == Tryz.prog.inPlace 4) = true := by kernel_rfl
theorem j8 : (Rows.topKnotRow.unfollowed == Tryz.prog.unfollowed 4) = true := by kernel_rfl
theorem j9 : (Rows.topKnotRow.recurses == Tryz.prog.recurses 4) = true := by kernel_rfl
theorem j10 : (Rows.topKnotRow.named == Tryz.prog.varsNamed 4) = true := by kernel_rfl
theorem j13 : (Rows.topKnotRow.lifted == Tryz.prog.liftsFinal) = true := by kernel_rfl
theorem j14 : (Tryz.prog.make == some Rows.topKnotRow.make) = true := by kernel_rfl
theorem j15 : (Rows.topKnotRow.plainKeys == Tryz.prog.plainKeys) = true := by kernel_rfl
theorem named : Tryz.pinned.checked.prog.funcNamed Rows.topKnotRow.func = some 4 := by kernel_rfl
theorem wrapped : Tryz.f4.isWrapper Tryz.pinned.checked.prog Rows.topKnotRow.wrapper Rows.topKnotRow.mainSum := by unfold Func.isWrapper; first | (rw [if_pos (by decide +kernel)]; kernel_rfl) | (rw [if_neg (by decide +kernel)]; exact ⟨rfl, rfl⟩)
theorem closed : joinedFacts Tryz.prog 4 Tryz.f4 (OpenSpec.ofChange Rows.topKnotSpec).bare Rows.topKnotRow = true := by
  simp only [joinedFacts, Bool.and_eq_true]
  repeat' (with_reducible refine And.intro ?_ ?_)
  all_goals first | (with_reducible exact X.laidOut) | (with_reducible exact X.tf3) | (with_reducible exact X.tf5) | (with_reducible exact X.tf6) | (with_reducible exact j7) | (with_reducible exact j8) | (with_reducible exact j9) | (with_reducible exact j10) | (with_reducible exact X.tf11) | (with_reducible exact X.tf12) | (with_reducible exact j13) | (with_reducible exact j14) | (with_reducible exact j15) | kernel_rfl
theorem said : Rows.TopKnotSaid :=
  OpenClaim.holds_of_cond 4 Tryz.f4 rfl rfl rfl rfl rfl rfl rfl ⟨rfl, rfl, rfl, rfl, rfl⟩ rfl rfl rfl rfl rfl named Tryz.func4 closed
    (of_decide_eq_true (by kernel_rfl)) wrapped
    (fun os started H enc _ F => by rw [OpenClaim.pre_eq_preRow]; exact lifted os started H enc F)
theorem plain (f : FuncId) (fn : Func) (hf : Tryz.pinned.checked.prog.funcNamed "clusterlocks/clusterlockstop.TopKnot" = some f) (hfn : Tryz.pinned.checked.prog.funcs[f]? = some fn) :
    true = Tryz.pinned.checked.prog.looks [] ∧ ∀ (j : Nat) t, fn.params[j]? = some t → Tryz.pinned.checked.prog.wantsStandIn t = false := by
  obtain rfl : f = 4 := Option.some.inj ((show Tryz.prog.funcNamed "clusterlocks/clusterlockstop.TopKnot" = some 4 by kernel_rfl).symm.trans hf) |>.symm
  obtain rfl : fn = Tryz.f4 := (Option.some.inj (Tryz.func4.symm.trans hfn)).symm
  refine ⟨by kernel_rfl, fun j t ht => ?_⟩
  rw [Tryz.params4] at ht
  have hm := Array.mem_of_getElem? ht
  simp only [List.mem_toArray, List.mem_cons, List.not_mem_nil, or_false] at hm
  rcases hm with rfl | rfl | rfl
  · exact (show Tryz.prog.wantsStandIn 3 = false by kernel_rfl)
  · exact (show Tryz.prog.wantsStandIn 3 = false by kernel_rfl)
  · exact (show Tryz.prog.wantsStandIn 3 = false by kernel_rfl)
theorem proved : Rows.TopKnotCardSaid :=
  Claim7.holds_tied_plain_at .later [] _ _ _ _ said (fun _ h => by cases h) (by kernel_rfl) (fun _ h => by cases h) topKnot_row_tie rfl ⟨rfl, rfl⟩ (by kernel_rfl) rfl plain (by kernel_rfl)
#print axioms proved
end Go.Proofs.YtapflcgnihdmoaaGreatDoor.topKnot
