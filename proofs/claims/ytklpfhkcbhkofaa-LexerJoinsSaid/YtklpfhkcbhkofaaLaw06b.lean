
/- The statements about the lexer (chapter 6), second part: the walk of the law LexerNumbers. -/
import Derived.Test.YtklpfhkcbhkofaaLaw06
import Derived.Test.YtklpfhkcbhkofaaCv
import Derived.Test.YtklpfhkcbhkofaaLx4
namespace Go.Proofs.Ytklpfhkcbhkofaa
open Go.RowKit
/-- what is still to come, with what is there -/
def dg (k : Nat) (t : List UInt8) : List UInt8 := if t = [] then CL.digits k else CL.D 6 k ++ t
theorem D_succ {f k : Nat} (h : k ≠ 0) : CL.D (f + 1) k = CL.D f (k / 10) ++ [UInt8.ofNat (48 + k % 10)] := by simp [CL.D, h]
theorem D_fuel : ∀ (f g k : Nat), k < 10 ^ f → k < 10 ^ g → CL.D f k = CL.D g k
  | 0, 0, _, _, _ => rfl
  | 0, g + 1, k, h, _ => by simp at h; subst h; rfl
  | f + 1, 0, k, _, h => by simp at h; subst h; rfl
  | f + 1, g + 1, k, h1, h2 => by
    by_cases h : k = 0
    · subst h; rfl
    · rw [D_succ h, D_succ h, D_fuel f g (k / 10) (by rw [Nat.pow_succ] at h1; omega) (by rw [Nat.pow_succ] at h2; omega)]
theorem dg_step {k : Nat} {t : List UInt8} (hk : k ≤ 99999) (h : k ≠ 0 ∨ t = []) : dg k t = dg (k / 10) (UInt8.ofNat (48 + k % 10) :: t) := by
  by_cases h0 : k = 0
  · subst h0
    have ht : t = [] := by rcases h with h | h; exact absurd rfl h; exact h
    subst ht; rfl
  · have e : dg k t = CL.D 6 k ++ t := by
      unfold dg
      split
      · rename_i ht; subst ht; simp [CL.digits, h0]
      · rfl
    rw [e, D_succ h0, D_fuel 5 6 (k / 10) (by omega) (by omega)]
    simp [dg]
theorem dg_end {t : List UInt8} (h : t ≠ []) : dg 0 t = t := by simp [dg, h, CL.D]
theorem one_ne (b : UInt8) : (⟨#[b]⟩ : ByteArray) ≠ ByteArray.empty := fun h => by
  have h2 : (1 : Nat) = 0 := congrArg (fun x : ByteArray => x.data.size) h
  exact absurd h2 (by decide)
theorem digits_len (n : Nat) : (CL.digits n).length ≤ 6 := by
  unfold CL.digits
  split
  · simp
  · exact CL.D_len 6 n
theorem dg_len {n k : Nat} {t : List UInt8} (h : CL.digits n = dg k t) : t.length ≤ 6 := by
  have h1 := digits_len n
  rw [h] at h1
  unfold dg at h1
  split at h1
  · rename_i e; subst e; simp
  · simp at h1; omega
set_option maxHeartbeats 1600000 in
theorem LexerNumbers_w (n z : Int) (w : World) : Calls Try.prog 8 #[.int .i64 n, .int .i64 z] w fun e w' => e = .returned (.bool true) ∧ Ext w w' := by
  have hx := Ext.rfl' (a := w)
  by_cases hr : 0 ≤ n ∧ n ≤ 99999 ∧ 0 ≤ z ∧ z ≤ 3
  · obtain ⟨h1, h2, h3, h4⟩ := hr
    obtain ⟨nn, rfl⟩ := Int.eq_ofNat_of_zero_le h1
    obtain ⟨zz, rfl⟩ := Int.eq_ofNat_of_zero_le h3
    have hnn : nn ≤ 99999 := by omega
    have hzz : zz ≤ 3 := by omega
    go_enter Try.func8, Try.ntmps8
    go_wp2
    go_loopw [5, 6] (fun v p wr => ∃ (k : Nat) (t : List UInt8), k ≤ 99999 ∧ p = .int .i64 k ∧ v = .string ⟨t.toArray⟩ ∧ Hid (CL.digits nn = dg k t) ∧ Ext w wr)
      (fun v p _ => (intOf p).toNat + match v with | .string s => (if s.size = 0 then 1 else 0) | _ => 0)
    case atStart => exact ⟨nn, [], hnn, rfl, rfl, rfl, hx⟩
    case round =>
      clear hx
      obtain ⟨k, t, hk, rfl, rfl, HD, hx⟩ := hrel
      obtain ⟨wo, rfl⟩ : ∃ wo : World, wo = wr := ⟨_, rfl⟩
      have hcv := conv_one (P := Try.prog) 33 9 5 Try.underlying33 Try.underlying5 Try.underlying9
      have htl := dg_len HD.out
      by_cases h0 : k = 0
      · subst h0
        cases t with
        | nil =>
          have HS := Lib.hid (HD.out.trans (dg_step hk (.inr rfl)))
          go_wp2
          refine ⟨⟨0, [48], by omega, rfl, by rw [bytes_append [48] []]; rfl, HS, hx.tr (Ext.new _ _)⟩, ?_⟩
          simp [intOf]
          rw [if_neg (fun h => one_ne _ h.1), if_pos (show (⟨#[]⟩ : ByteArray) = ByteArray.empty from rfl)]; omega
        | cons c t =>
          have he : (c :: t).isEmpty = false := rfl
          have HT := Lib.hid (HD.out.trans (dg_end (List.cons_ne_nil c t)))
          generalize c :: t = T at *
          clear HD
          go_wp2
          go_loop [5, 7] (fun v i => ∃ (k : Nat) (X : List UInt8), k ≤ zz ∧ i = .int .i64 k ∧ v = .string ⟨X.toArray⟩ ∧ Hid (X = List.replicate k 48 ++ T)) (fun _ i => zz - (intOf i).toNat)
          case atStart => exact ⟨0, T, by omega, rfl, rfl, rfl⟩
          case round =>
            obtain ⟨k, X, hk2, rfl, rfl, HX⟩ := hrel
            have hxl : X.length ≤ 9 := by rw [HX.out]; simp; omega
            by_cases hlt : k < zz
            · go_wp2
              go_round
              case rel => exact ⟨k + 1, 48 :: X, by omega, by go_num, by rw [bytes_append [48] X]; rfl, by show _ = _; rw [HX.out]; rfl⟩
              case measure => simp [intOf]; omega
            · obtain rfl : k = zz := by omega
              have HR := CL.tokens_number nn k hnn hzz
              rw [HT.out, ← HX.out] at HR
              have HR := Lib.hid HR
              clear HX HT he
              go_wp2_with fail
              refine (Tokens_c X _ (by unfold maxLen; omega)).mono ?_
              rintro e w1 ⟨v, rfl, hown, hx1⟩
              replace hx := hx.tr hx1
              by_cases hbad : 9999 < nn ∨ 0 < k
              · rw [HR.out, if_pos hbad] at hown ⊢
                obtain ⟨A, c, rfl, _, _⟩ := own_form hown
                clear hown
                have hg : 9999 < nn ∨ (nn ≤ 9999 ∧ 0 < k) := by omega
                clear hbad
                rcases hg with hg | ⟨hg, hg'⟩
                all_goals
                  go_wp2_with (go_at_call 11; refine (awake6_c _).mono ?_; rintro e w' ⟨rfl, hx1⟩; replace hx := hx.tr hx1; clear hx1)
                  go_ret
                  exact ⟨rfl, hx⟩
              · rw [HR.out, if_neg hbad] at hown ⊢
                obtain ⟨A, c, rfl, _, _⟩ := own_form hown
                obtain ⟨b, o, rfl, hc⟩ := (Sits.of_own hown).get (by simp [tks, tkc])
                have hS : Sits w1 (some ⟨b, o, none⟩) (tks [⟨3, [], nn, 0⟩, ⟨5, [], 0, T.length⟩]) := fun _ => ⟨b, o, rfl, hc⟩
                have hg1 : nn ≤ 9999 := by omega
                have hg2 : k = 0 := by omega
                subst hg2
                have hq : ∀ W, (binOp .eql 32 (.agg #[.int .i64 3, .string ⟨#[]⟩, .int .i64 nn, .int .i64 0]) (.agg #[.int .i64 3, .string ⟨#[]⟩, .int .i64 nn, .int .i64 0])).run Try.prog W = .ok (.bool true) W := fun W => by
                  have := tok_eql ⟨3, [], nn, 0⟩ ⟨3, [], nn, 0⟩ W
                  simpa using this
                have hgd := tok_guard
                clear hbad hown hc
                go_wp2_with fail
                refine (awake6_c _).mono ?_
                rintro e w2 ⟨rfl, hx2⟩
                replace hx := hx.tr hx2
                obtain ⟨b', o', e', hc⟩ := (hS.ext hx2).get (by simp [tks, tkc])
                injection e' with e'
                injection e' with e1 e2
                subst e1 e2
                have c0 : w2.cell? ⟨b, o, none⟩ = some (.int .i64 3) := hc 0 _ rfl
                have c1 : w2.cell? ⟨b, o + 1, none⟩ = some (.string ⟨#[]⟩) := hc 1 _ rfl
                have c2 : w2.cell? ⟨b, o + 2, none⟩ = some (.int .i64 nn) := hc 2 _ rfl
                have c3 : w2.cell? ⟨b, o + 3, none⟩ = some (.int .i64 0) := hc 3 _ rfl
                have c4 : w2.cell? ⟨b, o + 4, none⟩ = some (.int .i64 5) := hc 4 _ rfl
                clear hc hS hx2
                go_wp2
                go_ret
                exact ⟨rfl, hx⟩
      · have hk0 : 0 < k := by omega
        have HS := Lib.hid (HD.out.trans (dg_step hk (.inl h0)))
        clear h0
        go_wp2
        refine ⟨⟨k / 10, (48 + UInt8.ofNat (k % 10)) :: t, by omega, by go_num, by rw [show (⟨#[48 + UInt8.ofNat (k % 10)]⟩ : ByteArray) ++ ⟨t.toArray⟩ = _ from bytes_append [_] t]; rfl, ?_, hx.tr (Ext.new _ _)⟩, ?_⟩
        · have := HS.out
          rw [UInt8.ofNat_add] at this
          exact this
        · simp [intOf]
          rw [if_neg (fun h => one_ne _ h.1)]
          split <;> omega
  · have hx := Ext.rfl' (a := w)
    go_enter Try.func8, Try.ntmps8
    go_wp2_with (go_at_call 11; refine (awake6_c _).mono ?_; rintro e w' ⟨rfl, hx1⟩; replace hx := hx.tr hx1; clear hx1)
    all_goals (go_ret; exact ⟨rfl, hx⟩)
end Go.Proofs.Ytklpfhkcbhkofaa
