/- Mod's answer. -/
import Derived.Test.YtapflcgnihdmoaaGreatDoorC1
import Derived.Test.YtapflcgnihdmoaaGreatDoorK1
import Derived.Handy
import Derived.BigQuiet
import Derived.Deep.QuietTactic
namespace X
open Go Go.Proofs Go.RowKit Go.Lib
set_option linter.unusedVariables false
set_option linter.unusedSimpArgs false
set_option linter.unusedSectionVars false
set_option maxRecDepth 100000
def mdv (n m : Int) : Int := if n.tmod m < 0 then n.tmod m + m else n.tmod m
theorem mdv_in (n : Int) {m : Int} (h : 1 ≤ m) : 0 ≤ mdv n m ∧ mdv n m < m := by
  have q1 : n.tmod m < m := Int.tmod_lt_of_pos n (by omega)
  have q2 : -m < n.tmod m := Int.lt_tmod_of_pos n (by omega)
  unfold mdv; split <;> omega
theorem rt_int {k : IntKind} {a b : Int} (h : a = b) : Ending.returned (.int k a) = .returned (.int k b) := by rw [h]
theorem Mod_c (n m : Int) (w : World) (h1 : 1 ≤ m) (h2 : m ≤ 1048576) : Calls Tryz.prog 13 #[.int .i64 n, .int .i64 m] w fun e w' => e = .returned (.int .i64 (mdv n m)) ∧ w = w' := by
  have q1 : n.tmod m < m := Int.tmod_lt_of_pos n (by omega)
  have q2 : -m < n.tmod m := Int.lt_tmod_of_pos n (by omega)
  have q3 : wrap64 (n.tmod m + m) = n.tmod m + m := by unfold wrap64; omega
  go_enter Tryz.func13, Tryz.ntmps13
  go_wp2
  all_goals (go_ret; exact ⟨rt_int (by go_tidy; unfold mdv; first | rw [if_pos (by omega)] | rw [if_neg (by omega)]), rfl⟩)
variable [Luck]
theorem snd_mod {n r : Nat} {F : Fn} (hF : Snd Tryz.prog 13 F) (hn : 1 ≤ n) (hn2 : n ≤ 1048576) (hr0 : mdv Luck.val (.ofNat n) = .ofNat r) : Snd Tryz.prog 13 (modF n r F) := fun vs s k h w0 w μ xs hr hv g0 g2 => by
  unfold modF at h
  obtain ⟨x, t1, rfl, h1⟩ := ar1_true h
  obtain ⟨y, t2, rfl, h2⟩ := ar1_true h1
  obtain ⟨rfl, h3⟩ := ar0_true h2
  cases x
  case sym =>
    obtain ⟨t, m, rfl, h4⟩ := wI_true h3
    obtain ⟨h5, h6⟩ := brec_true h4
    obtain ⟨h7, h8⟩ := brec_true h6
    obtain rfl := kq_true h5
    rw [ieq_eq] at h7
    have h7 := of_decide_eq_true h7
    subst h7
    obtain ⟨x1, xs1, e1, hx1, hv1⟩ := hv.inv
    obtain ⟨x2, xs2, e2, hx2, hv2⟩ := hv1.inv
    have e3 := hv2.inv_nil
    subst e3; subst e2
    rw [int_inv hx2] at e1
    cases hx1
    have e : xs = #[.int .i64 Luck.val, .int .i64 (.ofNat n)] := by apply Array.ext'; rw [e1]
    subst e
    show outR _ _ _
    rw [run_own Tryz.func13 (by kernel_rfl) ⟨_, rfl⟩]
    show Calls _ _ _ _ _
    refine (Mod_c Luck.val (.ofNat n) w (by show (1 : Int) ≤ (n : Int); omega) (by show (n : Int) ≤ _; omega)).mono ?_
    rintro e w' ⟨rfl, rfl⟩
    exact ⟨_, rfl, .int .i64 (.ofNat r), s, μ, Nat.le_refl _, h8, MX.rfl', by rw [hr0]; exact .int _ _, hr⟩
  all_goals exact hF _ s k h3 w0 w μ xs hr hv g0 g2
end X
