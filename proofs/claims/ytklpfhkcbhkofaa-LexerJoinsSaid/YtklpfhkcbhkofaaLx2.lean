
/- Plain law of the lexer, second part: where a run stops; space is passed over. -/
import Derived.Test.YtklpfhkcbhkofaaLx
namespace CL
theorem span_stop {p : Int → Bool} {s : List UInt8} {i : Nat} (h : i + spanN p (s.drop i) < s.length) : at8 p (s[i + spanN p (s.drop i)]) = false := by
  have e : (s.drop i)[spanN p (s.drop i)]? = some (s[i + spanN p (s.drop i)]) := by
    rw [List.getElem?_drop]; simp [h]
  have hh : ∀ (r : List UInt8) (c : UInt8), r[spanN p r]? = some c → at8 p c = false := by
    intro r
    induction r with
    | nil => intro c h; simp at h
    | cons d r ih =>
      intro c h
      by_cases hd : at8 p d = true
      · simp only [spanN, List.takeWhile_cons, hd, if_true, List.length_cons, List.getElem?_cons_succ] at h
        exact ih c h
      · simp only [spanN, List.takeWhile_cons, hd, Bool.false_eq_true, if_false, List.length_nil, List.getElem?_cons_zero, Option.some.injEq] at h
        subst h; simpa using hd
  exact hh _ _ e
theorem span_in {p : Int → Bool} {s : List UInt8} {i k : Nat} (h1 : i ≤ k) (h2 : k < i + spanN p (s.drop i)) (h : k < s.length) : at8 p s[k] = true := by
  have e : (s.drop i)[k - i]? = some s[k] := by rw [List.getElem?_drop]; simp [show i + (k - i) = k by omega, h]
  have hh : ∀ (r : List UInt8) (n : Nat) (c : UInt8), n < spanN p r → r[n]? = some c → at8 p c = true := by
    intro r
    induction r with
    | nil => intro n c h; simp [spanN] at h
    | cons d r ih =>
      intro n c h hc
      by_cases hd : at8 p d = true
      · cases n with
        | zero => simp at hc; subst hc; exact hd
        | succ n =>
          simp only [spanN, List.takeWhile_cons, hd, if_true, List.length_cons] at h
          exact ih n c (by unfold spanN; omega) (by simpa using hc)
      · simp [spanN, hd] at h
  exact hh _ _ _ (by omega) e
theorem tokF_skip {s : List UInt8} {acc : List Tk} {i j : Nat} (hij : i ≤ j) (hj : j ≤ s.length) (h : ∀ k, i ≤ k → k < j → (hk : k < s.length) → at8 spc s[k] = true) : tokF s i acc = tokF s j acc := by
  induction hn : j - i generalizing i with
  | zero => rw [show i = j by omega]
  | succ n ih =>
    rw [tokF_space (by omega) (h i (Nat.le_refl _) (by omega) (by omega))]
    exact ih (by omega) (fun k h1 h2 h3 => h k (by omega) h2 h3) (by omega)
end CL
