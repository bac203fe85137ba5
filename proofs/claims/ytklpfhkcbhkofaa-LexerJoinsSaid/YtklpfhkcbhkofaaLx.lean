
/- Plain law of the lexer: classes of bytes, one token, all tokens of a text. No program in sight. -/
import Derived.Test.YtklpfhkcbhkofaaMd
namespace CL
def spc (n : Int) : Bool := n == 9 || n == 10 || n == 13 || n == 32
def ltr (n : Int) : Bool := decide (97 ≤ n ∧ n ≤ 122)
def cap (n : Int) : Bool := decide (65 ≤ n ∧ n ≤ 90)
def dig (n : Int) : Bool := decide (48 ≤ n ∧ n ≤ 57)
def prt (n : Int) : Bool := ltr n || dig n || n == 95 || n == 45
def pun (n : Int) : Bool := n == 40 || n == 41 || n == 44 || n == 58 || n == 42
/-- a class, asked of a byte -/
def at8 (p : Int → Bool) (c : UInt8) : Bool := p (c.toNat : Int)
structure Tk where
  kind : Int
  text : List UInt8
  num : Int
  pos : Int
deriving DecidableEq
/-- how many bytes at the head are of a class -/
def spanN (p : Int → Bool) (r : List UInt8) : Nat := (r.takeWhile (at8 p)).length
def val (ds : List UInt8) : Int := ds.foldl (fun n c => 10 * n + ((c.toNat : Int) - 48)) 0
/-- the token at the head of r (not empty, not space): an error, or 0 with the token and how many bytes it has -/
def one (r : List UInt8) (at_ : Nat) : Int × Tk × Nat :=
  match r with
  | [] => (8, ⟨0, [], 0, 0⟩, 0)
  | c :: _ =>
    if at8 ltr c then (if 12 < spanN prt r then (9, ⟨0, [], 0, 0⟩, 0) else (0, ⟨1, r.take (spanN prt r), 0, at_⟩, spanN prt r))
    else if at8 cap c then (if prs (r.take (spanN cap r)) = 0 then (8, ⟨0, [], 0, 0⟩, 0) else (0, ⟨2, r.take (spanN cap r), prs (r.take (spanN cap r)), at_⟩, spanN cap r))
    else if at8 dig c then (if 4 < spanN dig r ∨ (1 < spanN dig r ∧ c = 48) then (8, ⟨0, [], 0, 0⟩, 0) else (0, ⟨3, [], val (r.take (spanN dig r)), at_⟩, spanN dig r))
    else if at8 pun c then (0, ⟨4, [c], 0, at_⟩, 1)
    else (8, ⟨0, [], 0, 0⟩, 0)
theorem spanN_le (p : Int → Bool) (r : List UInt8) : spanN p r ≤ r.length := by
  unfold spanN
  exact (List.takeWhile_sublist _).length_le
theorem spanN_pos {p : Int → Bool} {c : UInt8} {r : List UInt8} (h : at8 p c = true) : 0 < spanN p (c :: r) := by
  simp [spanN, h]
theorem prt_ltr {c : UInt8} (h : at8 ltr c = true) : at8 prt c = true := by simp only [at8, prt] at *; simp [h]
theorem one_len {r : List UInt8} {i : Nat} (h : (one r i).1 = 0) : 1 ≤ (one r i).2.2 ∧ (one r i).2.2 ≤ r.length := by
  unfold one at h ⊢
  cases r with
  | nil => simp at h
  | cons c r =>
    simp only at h ⊢
    split
    · rename_i hc
      split
      · rename_i h1; simp [hc, h1] at h
      · exact ⟨spanN_pos (prt_ltr hc), spanN_le _ _⟩
    · split
      · rename_i h0 hc
        split
        · rename_i h1; simp [h0, hc, h1] at h
        · exact ⟨spanN_pos hc, spanN_le _ _⟩
      · split
        · rename_i h0 h01 hc
          split
          · rename_i h1; simp [h0, h01, hc, h1] at h
          · exact ⟨spanN_pos hc, spanN_le _ _⟩
        · split
          · simp
          · rename_i h0 h1 h2 h3; simp [h0, h1, h2, h3] at h
theorem one_word {s : List UInt8} {j i : Nat} (hj : j < s.length) (h : at8 ltr s[j] = true) :
    one (s.drop j) i = if 12 < spanN prt (s.drop j) then (9, ⟨0, [], 0, 0⟩, 0) else (0, ⟨1, (s.drop j).take (spanN prt (s.drop j)), 0, i⟩, spanN prt (s.drop j)) := by
  conv => lhs; unfold one
  rw [List.drop_eq_getElem_cons hj]
  simp only [h, if_true]
theorem one_mode {s : List UInt8} {j i : Nat} (hj : j < s.length) (h1 : at8 ltr s[j] = false) (h : at8 cap s[j] = true) :
    one (s.drop j) i = if prs ((s.drop j).take (spanN cap (s.drop j))) = 0 then (8, ⟨0, [], 0, 0⟩, 0) else (0, ⟨2, (s.drop j).take (spanN cap (s.drop j)), prs ((s.drop j).take (spanN cap (s.drop j))), i⟩, spanN cap (s.drop j)) := by
  conv => lhs; unfold one
  rw [List.drop_eq_getElem_cons hj]
  simp only [h, h1, if_true, Bool.false_eq_true, if_false]
theorem one_num {s : List UInt8} {j i : Nat} (hj : j < s.length) (h1 : at8 ltr s[j] = false) (h2 : at8 cap s[j] = false) (h : at8 dig s[j] = true) :
    one (s.drop j) i = if 4 < spanN dig (s.drop j) ∨ (1 < spanN dig (s.drop j) ∧ s[j] = 48) then (8, ⟨0, [], 0, 0⟩, 0) else (0, ⟨3, [], val ((s.drop j).take (spanN dig (s.drop j))), i⟩, spanN dig (s.drop j)) := by
  conv => lhs; unfold one
  rw [List.drop_eq_getElem_cons hj]
  simp only [h, h1, h2, if_true, Bool.false_eq_true, if_false]
theorem one_pun {s : List UInt8} {j i : Nat} (hj : j < s.length) (h1 : at8 ltr s[j] = false) (h2 : at8 cap s[j] = false) (h3 : at8 dig s[j] = false) :
    one (s.drop j) i = if at8 pun s[j] = true then (0, ⟨4, [s[j]], 0, i⟩, 1) else (8, ⟨0, [], 0, 0⟩, 0) := by
  conv => lhs; unfold one
  rw [List.drop_eq_getElem_cons hj]
  simp only [h3, h1, h2, Bool.false_eq_true, if_false]
theorem pun_no {c : UInt8} (h : ¬ at8 pun c = true) : ((c.toNat : Int) == 40) = false ∧ ((c.toNat : Int) == 41) = false ∧ ((c.toNat : Int) == 44) = false ∧ ((c.toNat : Int) == 58) = false ∧ ((c.toNat : Int) == 42) = false := by
  simp only [at8, pun, Bool.or_eq_true, not_or, Bool.not_eq_true] at h
  exact ⟨h.1.1.1.1, h.1.1.1.2, h.1.1.2, h.1.2, h.2⟩
theorem pun_yes {c : UInt8} (h : at8 pun c = true) :
    (((c.toNat : Int) == 40) = true ∧ ((c.toNat : Int) == 41) = false ∧ ((c.toNat : Int) == 44) = false ∧ ((c.toNat : Int) == 58) = false ∧ ((c.toNat : Int) == 42) = false) ∨
    (((c.toNat : Int) == 40) = false ∧ ((c.toNat : Int) == 41) = true ∧ ((c.toNat : Int) == 44) = false ∧ ((c.toNat : Int) == 58) = false ∧ ((c.toNat : Int) == 42) = false) ∨
    (((c.toNat : Int) == 40) = false ∧ ((c.toNat : Int) == 41) = false ∧ ((c.toNat : Int) == 44) = true ∧ ((c.toNat : Int) == 58) = false ∧ ((c.toNat : Int) == 42) = false) ∨
    (((c.toNat : Int) == 40) = false ∧ ((c.toNat : Int) == 41) = false ∧ ((c.toNat : Int) == 44) = false ∧ ((c.toNat : Int) == 58) = true ∧ ((c.toNat : Int) == 42) = false) ∨
    (((c.toNat : Int) == 40) = false ∧ ((c.toNat : Int) == 41) = false ∧ ((c.toNat : Int) == 44) = false ∧ ((c.toNat : Int) == 58) = false ∧ ((c.toNat : Int) == 42) = true) := by
  simp only [at8, pun, Bool.or_eq_true, beq_iff_eq] at h
  rcases h with (((h | h) | h) | h) | h <;> rw [h] <;> decide
/-- all tokens: what is collected, where it went wrong, the error -/
def toks : Nat → Nat → List UInt8 → List Tk → List Tk × Int × Int
  | 0, _, _, _ => ([], 0, 0)
  | _ + 1, i, [], acc => (acc ++ [⟨5, [], 0, i⟩], 0, 0)
  | f + 1, i, c :: r, acc =>
    if at8 spc c then toks f (i + 1) r acc
    else if (one (c :: r) i).1 = 0 then toks f (i + (one (c :: r) i).2.2) ((c :: r).drop (one (c :: r) i).2.2) (acc ++ [(one (c :: r) i).2.1])
    else ([], i, (one (c :: r) i).1)
theorem toks_fuel : ∀ (f g i : Nat) (r : List UInt8) (acc : List Tk), r.length < f → r.length < g → toks f i r acc = toks g i r acc
  | 0, _, _, _, _, h, _ => absurd h (by omega)
  | _, 0, _, _, _, _, h => absurd h (by omega)
  | _ + 1, _ + 1, _, [], _, _, _ => rfl
  | f + 1, g + 1, i, c :: r, acc, hf, hg => by
    simp only [toks]
    simp only [List.length_cons] at hf hg
    split
    · exact toks_fuel f g _ _ _ (by omega) (by omega)
    · split
      · rename_i h
        have := one_len h
        exact toks_fuel f g _ _ _ (by simp only [List.length_drop, List.length_cons]; omega) (by simp only [List.length_drop, List.length_cons]; omega)
      · rfl
/-- the rest of the work at place i -/
def tokF (s : List UInt8) (i : Nat) (acc : List Tk) : List Tk × Int × Int := toks (s.length + 1) i (s.drop i) acc
def tokens (s : List UInt8) : List Tk × Int × Int := if 1024 < s.length then ([], 0, 3) else tokF s 0 []
theorem tokF_end {s : List UInt8} {i : Nat} {acc : List Tk} (h : i = s.length) : tokF s i acc = (acc ++ [⟨5, [], 0, i⟩], 0, 0) := by
  unfold tokF
  rw [List.drop_of_length_le (by omega)]; rfl
theorem tokF_space {s : List UInt8} {i : Nat} {acc : List Tk} (hi : i < s.length) (h : at8 spc s[i] = true) : tokF s i acc = tokF s (i + 1) acc := by
  unfold tokF
  rw [List.drop_eq_getElem_cons hi]
  rw [toks, if_pos h]
  exact toks_fuel _ _ _ _ _ (by simp; omega) (by simp; omega)
theorem tokF_tok {s : List UInt8} {i : Nat} {acc : List Tk} (hi : i < s.length) (h : at8 spc s[i] = false) (ho : (one (s.drop i) i).1 = 0) :
    tokF s i acc = tokF s (i + (one (s.drop i) i).2.2) (acc ++ [(one (s.drop i) i).2.1]) := by
  unfold tokF
  have hd := List.drop_eq_getElem_cons hi
  have hl := one_len ho
  have e : toks (s.length + 1) i (s.drop i) acc = toks s.length (i + (one (s.drop i) i).2.2) ((s.drop i).drop (one (s.drop i) i).2.2) (acc ++ [(one (s.drop i) i).2.1]) := by
    rw [hd] at ho ⊢
    rw [toks, if_neg (by simp [h]), if_pos ho]
  rw [e, List.drop_drop]
  exact toks_fuel _ _ _ _ _ (by simp only [List.length_drop] at hl ⊢; omega) (by simp only [List.length_drop] at hl ⊢; omega)
theorem tokF_err {s : List UInt8} {i : Nat} {acc : List Tk} (hi : i < s.length) (h : at8 spc s[i] = false) (ho : (one (s.drop i) i).1 ≠ 0) :
    tokF s i acc = ([], (i : Int), (one (s.drop i) i).1) := by
  unfold tokF
  rw [List.drop_eq_getElem_cons hi] at ho ⊢
  rw [toks, if_neg (by simp [h]), if_neg ho]
/-- a run of a class, found byte by byte -/
theorem spanN_of {p : Int → Bool} {s : List UInt8} {i j : Nat} (hij : i ≤ j) (hj : j ≤ s.length) (hall : ∀ k, i ≤ k → (h : k < j) → at8 p (s[k]'(by omega)) = true)
    (hend : (h : j < s.length) → at8 p s[j] = false) : spanN p (s.drop i) = j - i := by
  induction hn : j - i generalizing i with
  | zero =>
    have : i = j := by omega
    subst this
    by_cases h : i < s.length
    · rw [List.drop_eq_getElem_cons h, spanN, List.takeWhile_cons, if_neg (by rw [hend h]; simp)]; rfl
    · rw [List.drop_of_length_le (by omega)]; rfl
  | succ n ih =>
    have hi : i < s.length := by omega
    have h1 := ih (i := i + 1) (by omega) (fun k hk h => hall k (by omega) h) (by omega)
    rw [List.drop_eq_getElem_cons hi]
    unfold spanN at h1 ⊢
    rw [List.takeWhile_cons, if_pos (hall i (Nat.le_refl _) (by omega)), List.length_cons, h1]
end CL
