
/- Plain law of the lexer, fifth part: where tokens and errors can stand. -/
import Derived.Test.YtklpfhkcbhkofaaLx3
namespace CL
theorem one_pos {c : UInt8} {r : List UInt8} {i : Nat} (h : (one (c :: r) i).1 = 0) : (one (c :: r) i).2.1.pos = i := by
  unfold one at h ⊢
  simp only at h ⊢
  by_cases a : at8 ltr c = true
  · simp only [if_pos a] at h ⊢
    by_cases b : 12 < spanN prt (c :: r)
    · simp [if_pos b] at h
    · simp only [if_neg b]
  · simp only [if_neg a] at h ⊢
    by_cases a2 : at8 cap c = true
    · simp only [if_pos a2] at h ⊢
      by_cases b : prs ((c :: r).take (spanN cap (c :: r))) = 0
      · simp [if_pos b] at h
      · simp only [if_neg b]
    · simp only [if_neg a2] at h ⊢
      by_cases a3 : at8 dig c = true
      · simp only [if_pos a3] at h ⊢
        by_cases b : 4 < spanN dig (c :: r) ∨ (1 < spanN dig (c :: r) ∧ c = 48)
        · simp [if_pos b] at h
        · simp only [if_neg b]
      · simp only [if_neg a3] at h ⊢
        by_cases b : at8 pun c = true
        · simp only [if_pos b]
        · simp [if_neg b] at h
theorem toks_pos : ∀ (f i : Nat) (r : List UInt8) (acc : List Tk), (0 ≤ (toks f i r acc).2.1 ∧ (toks f i r acc).2.1 ≤ ((i + r.length : Nat) : Int)) ∧
    ∀ t ∈ (toks f i r acc).1, t ∈ acc ∨ (0 ≤ t.pos ∧ t.pos ≤ ((i + r.length : Nat) : Int)) := by
  intro f
  induction f with
  | zero => intro i r acc; simp [toks]; omega
  | succ f ih =>
    intro i r acc
    cases r with
    | nil =>
      simp only [toks]
      refine ⟨⟨by omega, by simp⟩, fun t ht => ?_⟩
      rw [List.mem_append] at ht
      rcases ht with ht | ht
      · exact .inl ht
      · simp at ht; subst ht; exact .inr ⟨by simp, by simp⟩
    | cons c r =>
      simp only [toks]
      split
      · have := ih (i + 1) r acc
        simp only [List.length_cons]
        rw [show i + (r.length + 1) = i + 1 + r.length by omega]
        exact this
      · split
        · rename_i ho
          have h1 := one_len ho
          have h2 := one_pos ho
          have h3 := ih (i + (one (c :: r) i).2.2) ((c :: r).drop (one (c :: r) i).2.2) (acc ++ [(one (c :: r) i).2.1])
          simp only [List.length_drop] at h3
          rw [show i + (one (c :: r) i).2.2 + ((c :: r).length - (one (c :: r) i).2.2) = i + (c :: r).length by omega] at h3
          refine ⟨h3.1, fun t ht => ?_⟩
          rcases h3.2 t ht with h | h
          · rw [List.mem_append] at h
            rcases h with h | h
            · exact .inl h
            · simp at h; subst h; exact .inr ⟨by omega, by rw [h2]; simp only [List.length_cons]; omega⟩
          · exact .inr h
        · exact ⟨⟨by simp, by simp only [List.length_cons]; omega⟩, fun t ht => by simp at ht⟩
theorem tokens_pos (s : List UInt8) : (0 ≤ (tokens s).2.1 ∧ (tokens s).2.1 ≤ 1024) ∧ ∀ t ∈ (tokens s).1, 0 ≤ t.pos ∧ t.pos ≤ 1024 := by
  unfold tokens
  split
  · simp
  · rename_i h
    have h1 := toks_pos (s.length + 1) 0 (s.drop 0) []
    simp only [List.drop_zero, Nat.zero_add] at h1
    refine ⟨⟨h1.1.1, by have := h1.1.2; simp only [tokF, List.drop_zero]; omega⟩, fun t ht => ?_⟩
    rcases h1.2 t (by simpa [tokF] using ht) with h2 | h2
    · simp at h2
    · omega
end CL
