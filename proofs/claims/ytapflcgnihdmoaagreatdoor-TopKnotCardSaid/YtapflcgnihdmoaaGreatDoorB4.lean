/- The comparison of two strings that has no body. -/
import Derived.Test.YtapflcgnihdmoaaGreatDoorA9
import Derived.Test.YtapflcgnihdmoaaGreatDoorB1
import Derived.Lib.Bytealg
import Derived.Laws.Externs
namespace X
open Go Go.Proofs
set_option linter.unusedVariables false
set_option linter.unusedSectionVars false
variable [Luck]
set_option maxRecDepth 100000
theorem cmp_l : ∀ a b : List UInt8, Lib.compareBytes a b = (Bool.rec (Bool.rec (.ofNat 1) (.negSucc 0) (lless (a.map (·.toNat)) (b.map (·.toNat)))) (.ofNat 0) (lbeq (a.map (·.toNat)) (b.map (·.toNat))) : Int)
  | [], [] => rfl
  | [], _ :: _ => rfl
  | _ :: _, [] => rfl
  | x :: a, y :: b => by
    have ih := cmp_l a b
    show (if x < y then (-1 : Int) else if y < x then 1 else Lib.compareBytes a b) = (Bool.rec (Bool.rec (.ofNat 1) (.negSucc 0) (Bool.rec (Nat.ble (Nat.succ x.toNat) y.toNat) (lless (a.map (·.toNat)) (b.map (·.toNat))) (Nat.beq x.toNat y.toNat) : Bool)) (.ofNat 0) (Bool.rec false (lbeq (a.map (·.toNat)) (b.map (·.toNat))) (Nat.beq x.toNat y.toNat) : Bool) : Int)
    rw [ih]
    cases e : Nat.beq x.toNat y.toNat with
    | true =>
      have e1 : x = y := UInt8.toNat_inj.1 (Nat.eq_of_beq_eq_true e)
      subst e1
      rw [if_neg (UInt8.lt_irrefl x), if_neg (UInt8.lt_irrefl x)]
    | false =>
      have e1 : ¬ x = y := fun c => by rw [c] at e; simp at e
      by_cases hlt : x < y
      · have e2 : Nat.ble (Nat.succ x.toNat) y.toNat = true := Nat.ble_eq_true_of_le (UInt8.lt_iff_toNat_lt.1 hlt)
        rw [if_pos hlt, e2]; rfl
      · have e2 : Nat.ble (Nat.succ x.toNat) y.toNat = false := by
          cases c : Nat.ble (Nat.succ x.toNat) y.toNat with
          | false => rfl
          | true => exact absurd (UInt8.lt_iff_toNat_lt.2 (Nat.le_of_ble_eq_true c)) hlt
        have e3 : y < x := UInt8.lt_of_le_of_ne (UInt8.not_lt.1 hlt) (Ne.symm e1)
        rw [if_neg hlt, if_pos e3, e2]; rfl
theorem snd_cms : Snd Tryz.prog 189 cmsF := fun l0 s k h w0 w μ xs hr hv _ _ => by
  unfold cmsF at h
  obtain ⟨x, l, rfl, h1⟩ := ar1_true h
  obtain ⟨y, l2, rfl, h2⟩ := ar1_true h1
  obtain ⟨rfl, h2⟩ := ar0_true h2
  unfold cmsX at h2
  obtain ⟨a, rfl, h3⟩ := wS_true h2
  obtain ⟨b, rfl, h4⟩ := wS_true h3
  obtain ⟨x1, xs1, e1, hx1, hv1⟩ := hv.inv
  obtain ⟨x2, xs2, e2, hx2, hv2⟩ := hv1.inv
  have e3 := hv2.inv_nil
  subst e3; subst e2
  replace h4 := h4
  obtain ⟨A, rfl, rfl⟩ := str_inv hx1
  obtain ⟨B, rfl, rfl⟩ := str_inv hx2
  have e : xs = #[.string A, .string B] := by apply Array.ext'; rw [e1]
  subst e
  have h4 : k (.int .i64 (Bool.rec (Bool.rec (.ofNat 1) (.negSucc 0) (lless (A.data.toList.map (·.toNat)) (B.data.toList.map (·.toNat)))) (.ofNat 0) (lbeq (A.data.toList.map (·.toNat)) (B.data.toList.map (·.toNat))))) s = true := h4
  rw [← cmp_l] at h4
  have hrun : (callFunc 189 #[.string A, .string B]).run Tryz.prog w = .ok (.value (.int .i64 (Lib.compareBytes A.data.toList B.data.toList))) w := by
    rw [run_callFunc_extern Tryz.func189 (by kernel_rfl) (by kernel_rfl) (by kernel_rfl) (e := Extern.BytealgCompare.compare) (by kernel_rfl), Lib.run_compareString]
    rfl
  exact op1_intro ⟨_, s, Nat.le_refl _, h4, good_val hr (x := .int .i64 (Lib.compareBytes A.data.toList B.data.toList)) (by constructor) hrun⟩
end X
