
/- Plain law of the lexer, third part: what holds of all tokens of a text; tokens behind space; where tokens stand. -/
import Derived.Test.YtklpfhkcbhkofaaLx2
namespace CL
/-- what is collected on the way is in front; what holds at the end and is kept by space and by tokens holds of the rest -/
theorem toks_ind {s : List UInt8} (P : Nat → List Tk → Prop) (hend : P s.length [⟨5, [], 0, s.length⟩])
    (hspace : ∀ i l, (h : i < s.length) → at8 spc s[i] = true → P (i + 1) l → P i l)
    (htok : ∀ i l t n, (h : i < s.length) → at8 spc s[i] = false → one (s.drop i) i = (0, t, n) → 1 ≤ n → i + n ≤ s.length → P (i + n) l → P i (t :: l)) :
    ∀ (f i : Nat) (acc l : List Tk) (a : Int), i ≤ s.length → s.length - i < f → toks f i (s.drop i) acc = (l, a, 0) → ∃ l', l = acc ++ l' ∧ a = 0 ∧ P i l' := by
  intro f
  induction f with
  | zero => intro i acc l a hi hf; omega
  | succ f ih =>
    intro i acc l a hi hf h
    by_cases hlt : i < s.length
    · rw [List.drop_eq_getElem_cons hlt] at h
      simp only [toks] at h
      rw [← List.drop_eq_getElem_cons hlt] at h
      by_cases hsp : at8 spc s[i] = true
      · rw [if_pos hsp] at h
        obtain ⟨l', e1, e2, hp⟩ := ih (i + 1) acc l a (by omega) (by omega) h
        exact ⟨l', e1, e2, hspace i l' hlt hsp hp⟩
      · rw [if_neg hsp] at h
        by_cases ho : (one (s.drop i) i).1 = 0
        · rw [if_pos ho] at h
          have hl := one_len ho
          simp only [List.length_drop] at hl
          rw [List.drop_drop] at h
          obtain ⟨l', e1, e2, hp⟩ := ih _ _ l a (by omega) (by omega) h
          refine ⟨(one (s.drop i) i).2.1 :: l', by rw [e1]; simp, e2, htok i l' _ (one (s.drop i) i).2.2 hlt (by simpa using hsp) ?_ hl.1 (by omega) hp⟩
          rw [← ho]
        · rw [if_neg ho] at h
          injection h with _ h
          injection h with _ h
          exact absurd h ho
    · obtain rfl : i = s.length := by omega
      rw [List.drop_of_length_le (Nat.le_refl _)] at h
      simp only [toks] at h
      injection h with h1 h2
      injection h2 with h2 _
      exact ⟨_, h1.symm, h2.symm, hend⟩
theorem tokens_ind {s : List UInt8} (P : Nat → List Tk → Prop) (hend : P s.length [⟨5, [], 0, s.length⟩])
    (hspace : ∀ i l, (h : i < s.length) → at8 spc s[i] = true → P (i + 1) l → P i l)
    (htok : ∀ i l t n, (h : i < s.length) → at8 spc s[i] = false → one (s.drop i) i = (0, t, n) → 1 ≤ n → i + n ≤ s.length → P (i + n) l → P i (t :: l))
    (h : (tokens s).2.2 = 0) : P 0 (tokens s).1 ∧ (tokens s).2.1 = 0 ∧ s.length ≤ 1024 := by
  unfold tokens at h ⊢
  by_cases hl : 1024 < s.length
  · rw [if_pos hl] at h; simp at h
  · rw [if_neg hl] at h ⊢
    obtain ⟨l', e1, e2, hp⟩ := toks_ind P hend hspace htok (s.length + 1) 0 [] (tokF s 0 []).1 (tokF s 0 []).2.1 (by omega) (by omega) (by
      show tokF s 0 [] = _
      rw [← h])
    simp only [List.nil_append] at e1
    rw [e1]
    exact ⟨hp, e2, by omega⟩
theorem tokens_err {s : List UInt8} (h : (tokens s).2.2 ≠ 0) : (tokens s).1 = [] := by
  have key : ∀ (f i : Nat) (r : List UInt8) (acc : List Tk), (toks f i r acc).2.2 ≠ 0 → (toks f i r acc).1 = [] := by
    intro f
    induction f with
    | zero => intro i r acc h; simp [toks]
    | succ f ih =>
      intro i r acc h
      cases r with
      | nil => simp [toks] at h
      | cons c r =>
        simp only [toks] at h ⊢
        split
        · rename_i hc; rw [if_pos hc] at h; exact ih _ _ _ h
        · rename_i hc
          rw [if_neg hc] at h
          split
          · rename_i ho; rw [if_pos ho] at h; exact ih _ _ _ h
          · rfl
  unfold tokens at h ⊢
  split
  · rfl
  · rename_i hl
    rw [if_neg hl] at h
    exact key _ _ _ _ h
/-- a token that is not the end, as it stands in s -/
def okTok (s : List UInt8) (t : Tk) : Prop :=
  t.kind ≠ 5 ∧ 0 ≤ t.pos ∧ t.pos.toNat < s.length ∧ (t.kind = 1 → 1 ≤ t.text.length ∧ t.text.length ≤ 12 ∧ t.pos.toNat + t.text.length ≤ s.length ∧ (s.drop t.pos.toNat).take t.text.length = t.text)
def Pl (s : List UInt8) : Nat → List Tk → Prop
  | _, [] => False
  | i, [t] => t = ⟨5, [], 0, s.length⟩ ∧ i ≤ s.length
  | i, t :: u :: l => okTok s t ∧ (i : Int) ≤ t.pos ∧ Pl s (t.pos.toNat + 1) (u :: l)
theorem Pl.mono {s : List UInt8} {i j : Nat} {l : List Tk} (h : Pl s j l) (hij : i ≤ j) : Pl s i l := by
  match l, h with
  | [t], h => exact ⟨h.1, by have := h.2; omega⟩
  | t :: u :: l, h => exact ⟨h.1, by have := h.2.1; omega, h.2.2⟩
theorem one_ok {s : List UInt8} {i n : Nat} {t : Tk} (hi : i < s.length) (h : one (s.drop i) i = (0, t, n)) : okTok s t ∧ t.pos = i := by
  by_cases h0 : at8 ltr s[i] = true
  · rw [one_word hi h0] at h
    split at h
    · simp at h
    · rename_i hl
      simp only [Prod.mk.injEq, true_and] at h
      obtain ⟨rfl, rfl⟩ := h
      have h1 := spanN_le prt (s.drop i)
      have h2 : 0 < spanN prt (s.drop i) := by rw [List.drop_eq_getElem_cons hi]; exact spanN_pos (prt_ltr h0)
      simp only [List.length_drop] at h1
      refine ⟨⟨by simp, by simp, by simpa using hi, fun _ => ?_⟩, rfl⟩
      simp
      omega
  · simp only [Bool.not_eq_true] at h0
    by_cases h1 : at8 cap s[i] = true
    · rw [one_mode hi h0 h1] at h
      split at h
      · simp at h
      · simp only [Prod.mk.injEq, true_and] at h
        obtain ⟨rfl, rfl⟩ := h
        exact ⟨⟨by simp, by simp, by simpa using hi, by simp⟩, rfl⟩
    · simp only [Bool.not_eq_true] at h1
      by_cases h2 : at8 dig s[i] = true
      · rw [one_num hi h0 h1 h2] at h
        split at h
        · simp at h
        · simp only [Prod.mk.injEq, true_and] at h
          obtain ⟨rfl, rfl⟩ := h
          exact ⟨⟨by simp, by simp, by simpa using hi, by simp⟩, rfl⟩
      · simp only [Bool.not_eq_true] at h2
        rw [one_pun hi h0 h1 h2] at h
        split at h
        · simp only [Prod.mk.injEq, true_and] at h
          obtain ⟨rfl, rfl⟩ := h
          exact ⟨⟨by simp, by simp, by simpa using hi, by simp⟩, rfl⟩
        · simp at h
theorem tokens_Pl {s : List UInt8} (h : (tokens s).2.2 = 0) : Pl s 0 (tokens s).1 := by
  refine (tokens_ind (Pl s) ⟨rfl, Nat.le_refl _⟩ (fun i l _ _ hp => hp.mono (by omega)) (fun i l t n hi _ ho hn _ hp => ?_) h).1
  obtain ⟨h1, h2⟩ := one_ok hi ho
  match l, hp with
  | u :: l, hp => exact ⟨h1, by omega, hp.mono (by omega)⟩
theorem Pl.at_ {s : List UInt8} : ∀ {l : List Tk} {i k : Nat}, Pl s i l → (h : k + 1 < l.length) → okTok s l[k] ∧ l[k].pos < l[k + 1].pos
  | [t], i, k, _, h => by simp at h
  | [t, u], i, 0, hp, _ => by
    refine ⟨hp.1, ?_⟩
    have h2 := hp.2.2
    have h1 := hp.1.2.1
    show t.pos < u.pos
    rw [h2.1]
    have := h2.2
    show t.pos < (s.length : Int)
    omega
  | t :: u :: v :: l, i, 0, hp, _ => by
    refine ⟨hp.1, ?_⟩
    have h1 := hp.1.2.1
    have h2 := hp.2.2.2.1
    show t.pos < u.pos
    omega
  | t :: u :: l, i, k + 1, hp, h => by
    have := Pl.at_ (k := k) hp.2.2 (by simpa using h)
    simpa using this
theorem Pl.last {s : List UInt8} : ∀ {l : List Tk} {i : Nat}, Pl s i l → ∃ h : 0 < l.length, l[l.length - 1] = ⟨5, [], 0, s.length⟩
  | [t], _, hp => ⟨by simp, hp.1⟩
  | t :: u :: l, _, hp => by
    obtain ⟨h, e⟩ := Pl.last hp.2.2
    exact ⟨by simp, by simpa using e⟩
/-- tokens moved by n bytes -/
def sh (n : Nat) (t : Tk) : Tk := ⟨t.kind, t.text, t.num, t.pos + n⟩
theorem one_sh (r : List UInt8) (i n : Nat) (h : (one r i).1 = 0) : one r (i + n) = (0, sh n (one r i).2.1, (one r i).2.2) := by
  unfold one at h ⊢
  cases r with
  | nil => simp at h
  | cons c r =>
    simp only at h ⊢
    by_cases a : at8 ltr c = true
    · simp only [if_pos a] at h ⊢
      by_cases b : 12 < spanN prt (c :: r)
      · simp [if_pos b] at h
      · simp only [if_neg b]; simp [sh]
    · simp only [if_neg a] at h ⊢
      by_cases a2 : at8 cap c = true
      · simp only [if_pos a2] at h ⊢
        by_cases b : prs ((c :: r).take (spanN cap (c :: r))) = 0
        · simp [if_pos b] at h
        · simp only [if_neg b]; simp [sh]
      · simp only [if_neg a2] at h ⊢
        by_cases a3 : at8 dig c = true
        · simp only [if_pos a3] at h ⊢
          by_cases b : 4 < spanN dig (c :: r) ∨ (1 < spanN dig (c :: r) ∧ c = 48)
          · simp [if_pos b] at h
          · simp only [if_neg b]; simp [sh]
        · simp only [if_neg a3] at h ⊢
          by_cases b : at8 pun c = true
          · simp only [if_pos b]; simp [sh]
          · simp [if_neg b] at h
theorem one_sh_err (r : List UInt8) (i n : Nat) : (one r (i + n)).1 = (one r i).1 := by
  unfold one
  cases r with
  | nil => rfl
  | cons c r =>
    simp only
    repeat' split
    all_goals rfl
theorem toks_sh (n : Nat) : ∀ (f i : Nat) (r : List UInt8) (acc : List Tk), toks f (i + n) r (acc.map (sh n)) = ((toks f i r acc).1.map (sh n), (if (toks f i r acc).2.2 = 0 then (toks f i r acc).2.1 else (toks f i r acc).2.1 + n), (toks f i r acc).2.2) := by
  intro f
  induction f with
  | zero => intro i r acc; simp [toks]
  | succ f ih =>
    intro i r acc
    cases r with
    | nil => simp [toks, sh]
    | cons c r =>
      simp only [toks]
      split
      · rw [show i + n + 1 = (i + 1) + n by omega]; exact ih _ _ _
      · by_cases ho : (one (c :: r) i).1 = 0
        · have h1 := one_sh (c :: r) i n ho
          rw [if_pos (by rw [h1]), if_pos ho, h1]
          have := ih (i + (one (c :: r) i).2.2) ((c :: r).drop (one (c :: r) i).2.2) (acc ++ [(one (c :: r) i).2.1])
          rw [List.map_append, List.map_cons, List.map_nil] at this
          rw [← this, show i + n + (one (c :: r) i).2.2 = i + (one (c :: r) i).2.2 + n by omega]
        · rw [if_neg (by rw [one_sh_err]; exact ho), if_neg ho, one_sh_err]
          simp [ho]
theorem tokens_pad {p s : List UInt8} (hp : ∀ c ∈ p, at8 spc c = true) (hl : p.length + s.length ≤ 1024) :
    tokens (p ++ s) = ((tokens s).1.map (sh p.length), (if (tokens s).2.2 = 0 then (tokens s).2.1 else (tokens s).2.1 + p.length), (tokens s).2.2) := by
  unfold tokens
  rw [if_neg (by simp; omega), if_neg (by omega)]
  rw [tokF_skip (s := p ++ s) (i := 0) (j := p.length) (by omega) (by simp) (fun k _ h2 h3 => by
    rw [List.getElem_append_left h2]; exact hp _ (List.getElem_mem _))]
  unfold tokF
  rw [List.drop_left, List.drop_zero, toks_fuel _ (s.length + 1) _ _ _ (by simp; omega) (by omega)]
  have := toks_sh p.length (s.length + 1) 0 s []
  simpa using this
end CL
