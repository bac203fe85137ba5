
/- The statements about the lexer (chapter 6): the walk of the law LexerJoins where the lexer finds an error. -/
import Derived.Test.YtklpfhkcbhkofaaLaw06c
namespace Go.Proofs.Ytklpfhkcbhkofaa
open Go.RowKit
set_option linter.unusedVariables false
set_option linter.unusedSimpArgs false
set_option maxHeartbeats 1600000 in
theorem LexerJoins_e (s : List UInt8) (w : World) (hs : s.length ≤ maxLen) (he : ¬ (CL.tokens s).2.2 = 0) : Calls Try.prog 5 #[.string ⟨s.toArray⟩] w fun e w' => e = .returned (.bool true) ∧ Ext w w' := by
  have hx := Ext.rfl' (a := w)
  have hn := tok_count s
  obtain ⟨l, hl⟩ : ∃ l, (CL.tokens s).1 = l := ⟨_, rfl⟩
  rw [hl] at hn
  have hne : ((CL.tokens s).2.2 != 0) = true := by simpa using he
  have hee : ((CL.tokens s).2.2 != (CL.tokens s).2.2) = false := by simp
  have hd : decide (l = l) = true := by simp
  clear he
  go_enter Try.func5, Try.ntmps5
  go_wp2_with fail
  refine (Tokens_c s _ hs).mono ?_
  rintro e w1 ⟨v, rfl, hown, hx1⟩
  rw [hl] at hown
  obtain ⟨A, c, rfl, _, _⟩ := own_form hown
  have hS := Sits.of_own hown
  replace hx := hx.tr hx1
  clear hown hx1
  go_wp2_with fail
  refine (RTokens_c s _ hs).mono ?_
  rintro e w2 ⟨v2, rfl, hown2, hx2⟩
  rw [hl] at hown2
  obtain ⟨A2, c2, rfl, _, _⟩ := own_form hown2
  have hS2 := Sits.of_own hown2
  replace hS := hS.ext hx2
  replace hx := hx.tr hx2
  clear hown2 hx2 hl
  go_wp2_with fail
  refine (awake6_c _).mono ?_
  rintro e w3 ⟨rfl, hx1⟩
  replace hx := hx.tr hx1
  replace hS := hS.ext hx1
  replace hS2 := hS2.ext hx1
  clear hx1
  go_wp2_with fail
  refine (Same_c l l _ _ _ _ _ (by omega) (by omega) hS hS2).mono ?_
  rintro e w4 ⟨rfl, hx1⟩
  replace hx := hx.tr hx1
  clear hx1
  go_wp2
  go_ret
  exact ⟨rfl, hx⟩
end Go.Proofs.Ytklpfhkcbhkofaa
