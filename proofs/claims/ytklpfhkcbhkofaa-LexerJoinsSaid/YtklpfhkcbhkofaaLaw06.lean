
/- The statements about the lexer (chapter 6): the walks of the laws LexerTokens and LexerSpace, and the law's own awake. -/
import Derived.Test.YtklpfhkcbhkofaaLw6
namespace Go.Proofs.Ytklpfhkcbhkofaa
open Go.RowKit
def exText : List UInt8 := [50, 32, 111, 102, 40, 97, 58, 83, 41]
theorem ex_tokens : CL.tokens exText = ([⟨3, [], 2, 0⟩, ⟨1, [111, 102], 0, 2⟩, ⟨4, [40], 0, 4⟩, ⟨1, [97], 0, 5⟩, ⟨4, [58], 0, 6⟩, ⟨2, [83], 3, 7⟩, ⟨4, [41], 0, 8⟩, ⟨5, [], 0, 9⟩], 0, 0) := by decide
theorem awake6_c (w : World) : Calls Try.prog 11 #[] w fun e w' => e = .returned (.bool true) ∧ Ext w w' := by
  have hx := Ext.rfl' (a := w)
  go_enter Try.func11, Try.ntmps11
  go_wp2_with fail
  refine (Tokens_c exText _ (by decide)).mono ?_
  rintro e w1 ⟨v, rfl, hown, hx1⟩
  rw [ex_tokens] at hown ⊢
  obtain ⟨A, c, rfl, _, _⟩ := own_form hown
  have hS := Sits.of_own hown
  obtain ⟨b, o, rfl, hc⟩ := hS.get (by decide)
  have c0 : w1.cell? ⟨b, o + 2, none⟩ = some (.int .i64 2) := hc 2 _ rfl
  have c1 : w1.cell? ⟨b, o + 4 + 1, none⟩ = some (.string ⟨#[111, 102]⟩) := hc 5 _ rfl
  have c2 : w1.cell? ⟨b, o + 20 + 2, none⟩ = some (.int .i64 3) := hc 22 _ rfl
  have c3 : w1.cell? ⟨b, o + 28, none⟩ = some (.int .i64 5) := hc 28 _ rfl
  replace hx := hx.tr hx1
  clear hown hS hc hx1
  go_wp2_with (go_at_call 13; refine (Space_c _ _).mono ?_; rintro e w' ⟨rfl, rfl⟩)
  go_ret
  exact ⟨ret_bool (by decide), hx⟩
theorem LexerSpace_w (n : Int) (w : World) : Calls Try.prog 4 #[.int .u8 n] w fun e w' => e = .returned (.bool true) ∧ Ext w w' := by
  have hx := Ext.rfl' (a := w)
  go_enter Try.func4, Try.ntmps4
  go_wp2_with (first
    | (go_at_call 11; refine (awake6_c _).mono ?_; rintro e w' ⟨rfl, hx1⟩; replace hx := hx.tr hx1; clear hx1)
    | (go_at_call 13; refine (Space_c _ _).mono ?_; rintro e w' ⟨rfl, rfl⟩)
    | (go_at_call 14; refine (RSpace_c _ _).mono ?_; rintro e w' ⟨rfl, rfl⟩))
  go_ret
  exact ⟨rfl, hx⟩
theorem tok_count (s : List UInt8) : (CL.tokens s).1.length ≤ 1025 := by
  unfold CL.tokens
  split
  · simp
  · rename_i h
    have : ∀ (f i : Nat) (r : List UInt8) (acc : List CL.Tk), (CL.toks f i r acc).1.length ≤ acc.length + r.length + 1 := by
      intro f
      induction f with
      | zero => intro i r acc; simp [CL.toks]
      | succ f ih =>
        intro i r acc
        cases r with
        | nil => simp [CL.toks]
        | cons c r =>
          simp only [CL.toks]
          split
          · have := ih (i + 1) r acc; simp only [List.length_cons]; omega
          · split
            · rename_i ho
              have h1 := CL.one_len ho
              have := ih (i + (CL.one (c :: r) i).2.2) ((c :: r).drop (CL.one (c :: r) i).2.2) (acc ++ [(CL.one (c :: r) i).2.1])
              simp only [List.length_append, List.length_drop, List.length_cons, List.length_nil] at this h1 ⊢
              omega
            · simp
    have := this (s.length + 1) 0 (s.drop 0) []
    simp only [CL.tokF, List.drop_zero, List.length_nil] at this ⊢
    omega
theorem LexerTokens_w (s : List UInt8) (w : World) (hs : s.length ≤ maxLen) : Calls Try.prog 3 #[.string ⟨s.toArray⟩] w fun e w' => e = .returned (.bool true) ∧ Ext w w' := by
  have hx := Ext.rfl' (a := w)
  have hn := tok_count s
  go_enter Try.func3, Try.ntmps3
  go_wp2_with fail
  refine (Tokens_c s _ hs).mono ?_
  rintro e w1 ⟨v, rfl, hown, hx1⟩
  obtain ⟨A, c, rfl, _, _⟩ := own_form hown
  have hS := Sits.of_own hown
  replace hx := hx.tr hx1
  clear hown hx1
  go_wp2_with fail
  refine (RTokens_c s _ hs).mono ?_
  rintro e w2 ⟨v2, rfl, hown2, hx2⟩
  obtain ⟨A2, c2, rfl, _, _⟩ := own_form hown2
  have hS2 := Sits.of_own hown2
  replace hS := hS.ext hx2
  replace hx := hx.tr hx2
  clear hown2 hx2
  generalize (CL.tokens s).1 = l at *
  have hd : decide (l = l) = true := by simp
  go_wp2_with (first
    | (go_at_call 11; refine (awake6_c _).mono ?_; rintro e w3 ⟨rfl, hx1⟩; replace hx := hx.tr hx1; replace hS := hS.ext hx1; replace hS2 := hS2.ext hx1; clear hx1)
    | (go_at_call 12; refine (Same_c l l _ _ _ _ _ (by omega) (by omega) hS hS2).mono ?_; rintro e w4 ⟨rfl, hx1⟩; replace hx := hx.tr hx1; clear hx1))
  go_ret
  exact ⟨rfl, hx⟩
end Go.Proofs.Ytklpfhkcbhkofaa
