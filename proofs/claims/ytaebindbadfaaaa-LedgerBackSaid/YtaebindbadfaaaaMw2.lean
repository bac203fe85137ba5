
/- The walks of package mode and of its reference, second part: Format, Parse, Group, Conflicts, and the reference's Covers, Compatible, Sup. -/
import Derived.Test.YtaebindbadfaaaaMw
namespace Go.Proofs.Ytaebindbadfaaaa
open Go.RowKit
def vstr (l : List UInt8) : Value := .string ⟨l.toArray⟩
def NoNm (s : List UInt8) (k : Int) : Prop := ∀ j, 1 ≤ j → j < k → (CL.nm j == s) = false
theorem RCovers_c (a b : Int) (w : World) : Calls Try.prog 44 #[.int .i64 a, .int .i64 b] w fun e w' => e = .returned (.bool (CL.cov a b)) ∧ w = w' := by
  go_enter Try.func44, Try.ntmps44
  go_wp2_with (go_at_call 42; refine (RValid_c _ _).mono ?_; rintro e w' ⟨rfl, rfl⟩)
  all_goals (go_ret; refine ⟨ret_bool ?_, rfl⟩; go_tidy; simp_all [CL.cov])
end Go.Proofs.Ytaebindbadfaaaa
