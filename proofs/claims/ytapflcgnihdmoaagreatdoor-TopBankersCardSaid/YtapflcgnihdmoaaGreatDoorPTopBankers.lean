/- Proves TopBankers of the given program: it states n processes that hold h units each of a pool, and claim t units in all, are deadlocked exactly if what is free is less than what each of them lacks; and otherwise nobody is; the law returns true for every input and leaves its arguments as they were.
   Conditions: none on the arguments; the listed package-level variables start as the program lays them (the card ties them to its text). -/
import Derived.Test.YtapflcgnihdmoaaGreatDoorD5
namespace Go.Proofs.YtapflcgnihdmoaaGreatDoor.topBankers
open Go.ChangeShapes Go.WideShapes Go.ChangeAt Go.RowKit
open Go.ChangeMaps (open_string shut_string)
set_option linter.unusedVariables false
set_option maxRecDepth 100000
open X (own laidOut laidWorldT)
theorem j7 : (Rows.topBankersRow.inPlace == Tryz.prog.inPlace 3) = true := by kernel_rfl
theorem j8 : (Rows.topBankersRow.unfollowed == Tryz.prog.unfollowed 3) = true := by kernel_rfl
theorem j9 : (Rows.topBankersRow.recurses == Tryz.prog.recurses 3) = true := by kernel_rfl
theorem j10 : (Rows.topBankersRow.named == Tryz.prog.varsNamed 3) = true := by kernel_rfl
theorem j13 : (Rows.topBankersRow.lifted == Tryz.prog.liftsFinal) = true := by kernel_rfl
theorem j14 : (Tryz.prog.make == some Rows.topBankersRow.make) = true := by kernel_rfl
theorem j15 : (Rows.topBankersRow.plainKeys == Tryz.prog.plainKeys) = true := by kernel_rfl
theorem named : Tryz.pinned.checked.prog.funcNamed Rows.topBankersRow.func = some 3 := by kernel_rfl
theorem wrapped : Tryz.f3.isWrapper Tryz.pinned.checked.prog Rows.topBankersRow.wrapper Rows.topBankersRow.mainSum := by unfold Func.isWrapper; first | (rw [if_pos (by decide +kernel)]; kernel_rfl) | (rw [if_neg (by decide +kernel)]; exact ⟨rfl, rfl⟩)
theorem closed : joinedFacts Tryz.prog 3 Tryz.f3 (OpenSpec.ofChange Rows.topBankersSpec).bare Rows.topBankersRow = true := by
  simp only [joinedFacts, Bool.and_eq_true]
  repeat' (with_reducible refine And.intro ?_ ?_)
  all_goals first | (with_reducible exact X.laidOut) | (with_reducible exact X.tf3) | (with_reducible exact X.tf5) | (with_reducible exact X.tf6) | (with_reducible exact j7) | (with_reducible exact j8) | (with_reducible exact j9) | (with_reducible exact j10) | (with_reducible exact X.tf11) | (with_reducible exact X.tf12) | (with_reducible exact j13) | (with_reducible exact j14) | (with_reducible exact j15) | kernel_rfl
theorem said : Rows.TopBankersSaid :=
  OpenClaim.holds_of_cond 3 Tryz.f3 rfl rfl rfl rfl rfl rfl rfl ⟨rfl, rfl, rfl, rfl, rfl⟩ rfl rfl rfl rfl rfl named Tryz.func3 closed
    (of_decide_eq_true (by kernel_rfl)) wrapped
    (fun os started H enc _ F => by rw [OpenClaim.pre_eq_preRow]; exact lifted os started H enc F)
theorem plain (f : FuncId) (fn : Func) (hf : Tryz.pinned.checked.prog.funcNamed "clusterlocks/clusterlockstop.TopBankers" = some f) (hfn : Tryz.pinned.checked.prog.funcs[f]? = some fn) :
    true = Tryz.pinned.checked.prog.looks [] ∧ ∀ (j : Nat) t, fn.params[j]? = some t → Tryz.pinned.checked.prog.wantsStandIn t = false := by
  obtain rfl : f = 3 := Option.some.inj ((show Tryz.prog.funcNamed "clusterlocks/clusterlockstop.TopBankers" = some 3 by kernel_rfl).symm.trans hf) |>.symm
  obtain rfl : fn = Tryz.f3 := (Option.some.inj (Tryz.func3.symm.trans hfn)).symm
  refine ⟨by kernel_rfl, fun j t ht => ?_⟩
  rw [Tryz.params3] at ht
  have hm := Array.mem_of_getElem? ht
  simp only [List.mem_toArray, List.mem_cons, List.not_mem_nil, or_false] at hm
  rcases hm with rfl | rfl | rfl | rfl
  · exact (show Tryz.prog.wantsStandIn 3 = false by kernel_rfl)
  · exact (show Tryz.prog.wantsStandIn 3 = false by kernel_rfl)
  · exact (show Tryz.prog.wantsStandIn 3 = false by kernel_rfl)
  · exact (show Tryz.prog.wantsStandIn 3 = false by kernel_rfl)
theorem proved : Rows.TopBankersCardSaid :=
  Claim7.holds_tied_plain_at .later [] _ _ _ _ said (fun _ h => by cases h) (by kernel_rfl) (fun _ h => by cases h) topBankers_row_tie rfl ⟨rfl, rfl⟩ (by kernel_rfl) rfl plain (by kernel_rfl)
#print axioms proved
end Go.Proofs.YtapflcgnihdmoaaGreatDoor.topBankers
