
/- Plain law of the lexer, fourth part: digits become a number. -/
import Derived.Test.YtklpfhkcbhkofaaLx3
namespace CL
theorem tokens_digits {ds : List UInt8} (hd : ∀ c ∈ ds, at8 dig c = true) (h0 : 0 < ds.length) (hl : ds.length ≤ 1024) :
    tokens ds = if 4 < ds.length ∨ (1 < ds.length ∧ ds[0] = 48) then ([], 0, 8) else ([⟨3, [], val ds, 0⟩, ⟨5, [], 0, ds.length⟩], 0, 0) := by
  have hall : ∀ k, (h : k < ds.length) → at8 dig ds[k] = true := fun k h => hd _ (List.getElem_mem _)
  have h1 : at8 ltr ds[0] = false := by have := hall 0 h0; simp only [at8, dig, ltr, decide_eq_true_eq, decide_eq_false_iff_not] at *; omega
  have h2 : at8 cap ds[0] = false := by have := hall 0 h0; simp only [at8, dig, cap, decide_eq_true_eq, decide_eq_false_iff_not] at *; omega
  have h3 : at8 spc ds[0] = false := by
    have := hall 0 h0
    simp only [at8, dig, spc, decide_eq_true_eq] at *
    have e : ∀ v : Int, v < 48 → (((ds[0].toNat : Int) == v) = false) := fun v hv => by simp; omega
    simp [e 9 (by decide), e 10 (by decide), e 13 (by decide), e 32 (by decide)]
  have hsp : spanN dig (ds.drop 0) = ds.length := by
    have := spanN_of (p := dig) (s := ds) (i := 0) (j := ds.length) (by omega) (by omega) (fun k _ h => hall k h) (fun h => by omega)
    simpa using this
  have ho := one_num (i := 0) h0 h1 h2 (hall 0 h0)
  rw [hsp] at ho
  unfold tokens
  rw [if_neg (by omega)]
  by_cases hc : 4 < ds.length ∨ (1 < ds.length ∧ ds[0] = 48)
  · rw [if_pos hc] at ho ⊢
    rw [tokF_err h0 h3 (by rw [ho]; decide), ho]; rfl
  · rw [if_neg hc] at ho ⊢
    rw [tokF_tok h0 h3 (by rw [ho]), ho]
    simp only [Nat.zero_add, List.nil_append, List.drop_zero, List.take_length]
    rw [tokF_end rfl]; rfl
/-- the decimal digits of a positive number, none of zero -/
def D : Nat → Nat → List UInt8
  | 0, _ => []
  | f + 1, k => if k = 0 then [] else D f (k / 10) ++ [UInt8.ofNat (48 + k % 10)]
def digits (n : Nat) : List UInt8 := if n = 0 then [48] else D 6 n
theorem byte_dig (k : Nat) : at8 dig (UInt8.ofNat (48 + k % 10)) = true := by
  have h : k % 10 < 10 := Nat.mod_lt _ (by omega)
  simp only [at8, dig, decide_eq_true_eq, UInt8.toNat_ofNat']
  omega
theorem D_dig : ∀ (f k : Nat), ∀ c ∈ D f k, at8 dig c = true
  | 0, _, c, h => by simp [D] at h
  | f + 1, k, c, h => by
    unfold D at h
    split at h
    · simp at h
    · rw [List.mem_append] at h
      rcases h with h | h
      · exact D_dig f _ c h
      · simp only [List.mem_singleton] at h; subst h; exact byte_dig k
theorem val_snoc (l : List UInt8) (c : UInt8) : val (l ++ [c]) = 10 * val l + ((c.toNat : Int) - 48) := by simp [val, List.foldl_append]
theorem D_val : ∀ (f k : Nat), k < 10 ^ f → val (D f k) = k
  | 0, k, h => by simp at h; subst h; rfl
  | f + 1, k, h => by
    unfold D
    split
    · rename_i h0; subst h0; rfl
    · rw [val_snoc, D_val f (k / 10) (by rw [Nat.pow_succ] at h; omega), UInt8.toNat_ofNat']
      have : k % 10 < 10 := Nat.mod_lt _ (by omega)
      omega
theorem D_len : ∀ (f k : Nat), (D f k).length ≤ f
  | 0, _ => by simp [D]
  | f + 1, k => by
    unfold D
    split
    · simp
    · have := D_len f (k / 10); simp; omega
theorem D_len_le : ∀ (f k m : Nat), k < 10 ^ m → (D f k).length ≤ m
  | 0, _, _, _ => by simp [D]
  | f + 1, k, m, h => by
    unfold D
    split
    · simp
    · rename_i h0
      cases m with
      | zero => simp at h; omega
      | succ m =>
        have := D_len_le f (k / 10) m (by rw [Nat.pow_succ] at h; omega)
        simp; omega
theorem D_len_ge : ∀ (f k m : Nat), 10 ^ m ≤ k → m < f → m < (D f k).length
  | 0, _, _, _, h => by omega
  | f + 1, k, m, h, hf => by
    have hp : 0 < 10 ^ m := Nat.pow_pos (by omega)
    unfold D
    rw [if_neg (by omega)]
    cases m with
    | zero => simp
    | succ m =>
      have := D_len_ge f (k / 10) m (by rw [Nat.pow_succ] at h; omega) (by omega)
      simp; omega
theorem D_head : ∀ (f k : Nat), (h : 0 < (D f k).length) → k < 10 ^ f → (D f k)[0] ≠ 48
  | 0, _, h, _ => by simp [D] at h
  | f + 1, k, h, hk => by
    by_cases h0 : k = 0
    · subst h0; simp [D] at h
    · have e : D (f + 1) k = D f (k / 10) ++ [UInt8.ofNat (48 + k % 10)] := by simp [D, h0]
      by_cases h1 : 0 < (D f (k / 10)).length
      · have := D_head f (k / 10) h1 (by rw [Nat.pow_succ] at hk; omega)
        simp only [e]
        rw [List.getElem_append_left h1]; exact this
      · have hz : k / 10 = 0 := by
          by_cases hz : k / 10 = 0
          · exact hz
          · exfalso
            have hv := D_val f (k / 10) (by rw [Nat.pow_succ] at hk; omega)
            have hn : D f (k / 10) = [] := List.eq_nil_of_length_eq_zero (by omega)
            rw [hn] at hv
            simp [val] at hv; omega
        have hn : D f (k / 10) = [] := List.eq_nil_of_length_eq_zero (by omega)
        simp only [e, hn]
        simp only [List.nil_append, List.getElem_cons_zero]
        intro hh
        have := congrArg UInt8.toNat hh
        simp only [UInt8.toNat_ofNat'] at this
        have h48 : (48 : UInt8).toNat = 48 := rfl
        omega
theorem zero_dig : at8 dig 48 = true := by decide
theorem tokens_number (n z : Nat) (hn : n ≤ 99999) (hz : z ≤ 3) :
    tokens (List.replicate z 48 ++ digits n) = if 9999 < n ∨ 0 < z then ([], 0, 8) else ([⟨3, [], n, 0⟩, ⟨5, [], 0, (digits n).length⟩], 0, 0) := by
  have hdl : 0 < (digits n).length := by
    unfold digits
    split
    · simp
    · have := D_len_ge 6 n 0 (by omega) (by omega); omega
  have hdl2 : (digits n).length ≤ 6 := by
    unfold digits
    split
    · simp
    · exact D_len 6 n
  have hd : ∀ c ∈ List.replicate z 48 ++ digits n, at8 dig c = true := by
    intro c hc
    rw [List.mem_append] at hc
    rcases hc with hc | hc
    · rw [List.eq_of_mem_replicate hc]; exact zero_dig
    · unfold digits at hc
      split at hc
      · simp at hc; subst hc; exact zero_dig
      · exact D_dig 6 n c hc
  rw [tokens_digits hd (by simp; omega) (by simp; omega)]
  by_cases hz0 : 0 < z
  · rw [if_pos (show 9999 < n ∨ 0 < z from .inr hz0), if_pos]
    exact .inr ⟨by simp; omega, by rw [List.getElem_append_left (by simpa using hz0)]; simp⟩
  · obtain rfl : z = 0 := by omega
    simp only [List.replicate_zero, List.nil_append]
    by_cases h9 : 9999 < n
    · rw [if_pos (show 9999 < n ∨ 0 < 0 from .inl h9), if_pos]
      refine .inl ?_
      unfold digits
      rw [if_neg (by omega)]
      exact D_len_ge 6 n 4 (by omega) (by omega)
    · rw [if_neg (show ¬ (9999 < n ∨ 0 < 0) by omega)]
      by_cases h0 : n = 0
      · subst h0; rfl
      · have e : digits n = D 6 n := by simp [digits, h0]
        have h4 : (D 6 n).length ≤ 4 := D_len_le 6 n 4 (by omega)
        have hv : val (digits n) = n := by rw [e]; exact D_val 6 n (by omega)
        rw [if_neg ?_, hv]
        rintro (h | ⟨_, h⟩)
        · rw [e] at h; omega
        · exact D_head 6 n (by rw [← e]; exact hdl) (by omega) (by simpa [e] using h)
end CL
