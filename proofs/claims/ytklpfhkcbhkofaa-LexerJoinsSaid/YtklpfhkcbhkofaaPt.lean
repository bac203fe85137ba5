
/- Plain: lexemes; texts that are put together of lexemes and spaces; a text of tokens comes apart into lexemes and spaces. No program in sight. -/
import Derived.Test.YtklpfhkcbhkofaaPk
import Derived.Test.YtklpfhkcbhkofaaLx4
namespace CL
/-- a token without its place -/
abbrev Et := Int × List UInt8 × Int
/-- the lexeme x means t -/
def IsLx (x : List UInt8) (t : Et) : Prop :=
  ∃ c l, x = c :: l ∧
   ((at8 ltr c = true ∧ l.all (at8 prt) = true ∧ x.length ≤ 12 ∧ t = (1, x, 0)) ∨
    (at8 ltr c = false ∧ at8 cap c = true ∧ l.all (at8 cap) = true ∧ prs x ≠ 0 ∧ t = (2, x, prs x)) ∨
    (at8 ltr c = false ∧ at8 cap c = false ∧ at8 dig c = true ∧ l.all (at8 dig) = true ∧ ¬ (4 < x.length ∨ (1 < x.length ∧ c = 48)) ∧ t = (3, [], val x)) ∨
    (at8 ltr c = false ∧ at8 cap c = false ∧ at8 dig c = false ∧ at8 pun c = true ∧ l = [] ∧ t = (4, [c], 0)))
/-- a byte does not go on with what begins with c -/
def goesOn (c d : UInt8) : Bool := (at8 ltr c && at8 prt d) || (!at8 ltr c && at8 cap c && at8 cap d) || (!at8 ltr c && !at8 cap c && at8 dig c && at8 dig d)
def Stop (x r : List UInt8) : Prop := ∀ c l d q, x = c :: l → r = d :: q → goesOn c d = false
theorem takeWhile_app {p : UInt8 → Bool} {x r : List UInt8} (h1 : x.all p = true) (h2 : ∀ d q, r = d :: q → p d = false) : (x ++ r).takeWhile p = x := by
  induction x with
  | nil =>
    cases r with
    | nil => rfl
    | cons d q => simp [h2 d q rfl]
  | cons c x ih =>
    simp only [List.all_cons, Bool.and_eq_true] at h1
    simp [h1.1, ih h1.2]
theorem spanN_app {p : Int → Bool} {x r : List UInt8} (h1 : x.all (at8 p) = true) (h2 : ∀ d q, r = d :: q → at8 p d = false) : spanN p (x ++ r) = x.length := by
  unfold spanN; rw [takeWhile_app h1 h2]
theorem one_lx {x r : List UInt8} {t : Et} {i : Nat} (h : IsLx x t) (hs : Stop x r) : one (x ++ r) i = (0, ⟨t.1, t.2.1, t.2.2, i⟩, x.length) := by
  obtain ⟨c, l, rfl, h⟩ := h
  have hstop : ∀ d q, r = d :: q → goesOn c d = false := fun d q e => hs c l d q rfl e
  unfold one
  rw [List.cons_append]
  simp only
  rcases h with ⟨h1, h2, h3, rfl⟩ | ⟨h0, h1, h2, h3, rfl⟩ | ⟨h0, h0', h1, h2, h3, rfl⟩ | ⟨h0, h0', h1, h2, rfl, rfl⟩
  · have hsp : spanN prt (c :: (l ++ r)) = (c :: l).length := by
      rw [← List.cons_append]
      refine spanN_app (by simp [prt_ltr h1, h2]) (fun d q e => ?_)
      have := hstop d q e
      simp [goesOn, h1] at this
      exact this
    rw [if_pos h1, hsp, if_neg (by omega), ← List.cons_append, List.take_left]
  · have hsp : spanN cap (c :: (l ++ r)) = (c :: l).length := by
      rw [← List.cons_append]
      refine spanN_app (by simp [h1, h2]) (fun d q e => ?_)
      have := hstop d q e
      simp [goesOn, h1, h0] at this
      exact this
    rw [if_neg (by simp [h0]), if_pos h1, hsp, ← List.cons_append, List.take_left, if_neg h3]
  · have hsp : spanN dig (c :: (l ++ r)) = (c :: l).length := by
      rw [← List.cons_append]
      refine spanN_app (by simp [h1, h2]) (fun d q e => ?_)
      have := hstop d q e
      simp [goesOn, h1, h0, h0'] at this
      exact this
    rw [if_neg (by simp [h0]), if_neg (by simp [h0']), if_pos h1, hsp, ← List.cons_append, List.take_left, if_neg h3]
  · rw [if_neg (by simp [h0]), if_neg (by simp [h0']), if_neg (by simp [h1]), if_pos h2]
    rfl
theorem lx_pos {x : List UInt8} {t : Et} (h : IsLx x t) : 1 ≤ x.length := by
  obtain ⟨c, l, rfl, _⟩ := h; simp
theorem lx_nspc {x : List UInt8} {t : Et} (h : IsLx x t) : ∃ c l, x = c :: l ∧ at8 spc c = false := by
  obtain ⟨c, l, e, h⟩ := h
  refine ⟨c, l, e, ?_⟩
  have key : at8 ltr c = true ∨ at8 cap c = true ∨ at8 dig c = true ∨ at8 pun c = true := by
    rcases h with h | h | h | h
    · exact .inl h.1
    · exact .inr (.inl h.2.1)
    · exact .inr (.inr (.inl h.2.2.1))
    · exact .inr (.inr (.inr h.2.2.2.1))
  simp only [at8, ltr, cap, dig, pun, spc, decide_eq_true_eq, Bool.or_eq_true, beq_iff_eq] at *
  generalize (c.toNat : Int) = z at *
  simp only [Bool.or_eq_false_iff, beq_eq_false_iff_ne]
  omega
/-- space ends whatever was begun -/
theorem space_stops {c d : UInt8} (h : at8 spc d = true) : goesOn c d = false := by
  simp only [at8, spc, Bool.or_eq_true, beq_iff_eq] at h
  have h1 : at8 prt d = false := by
    simp only [at8, prt, ltr, dig, Bool.or_eq_false_iff, decide_eq_false_iff_not, beq_eq_false_iff_ne]; omega
  have h2 : at8 cap d = false := by simp only [at8, cap, decide_eq_false_iff_not]; omega
  have h3 : at8 dig d = false := by simp only [at8, dig, decide_eq_false_iff_not]; omega
  simp [goesOn, h1, h2, h3]
/-- a text is read as these tokens -/
inductive Lexes : List UInt8 → List Et → Prop
  | done : Lexes [] [(5, [], 0)]
  | space (c : UInt8) (r : List UInt8) (L : List Et) : at8 spc c = true → Lexes r L → Lexes (c :: r) L
  | tok (x : List UInt8) (t : Et) (r : List UInt8) (L : List Et) : IsLx x t → Stop x r → Lexes r L → Lexes (x ++ r) (t :: L)
theorem Lexes.toks {r : List UInt8} {L : List Et} (h : Lexes r L) : ∀ (f i : Nat) (acc : List Tk), r.length < f → ∃ l, toks f i r acc = (acc ++ l, 0, 0) ∧ l.map er = L := by
  induction h with
  | done =>
    intro f i acc hf
    cases f with
    | zero => simp at hf
    | succ f => exact ⟨_, rfl, rfl⟩
  | space c r L hc _ ih =>
    intro f i acc hf
    cases f with
    | zero => simp at hf
    | succ f =>
      obtain ⟨l, h1, h2⟩ := ih f (i + 1) acc (by simpa using hf)
      refine ⟨l, ?_, h2⟩
      unfold CL.toks
      rw [if_pos hc, h1]
  | tok x t r L hx hs _ ih =>
    intro f i acc hf
    have hp := lx_pos hx
    obtain ⟨c, l0, e, hsp⟩ := lx_nspc hx
    have ho := one_lx (i := i) hx hs
    cases f with
    | zero => simp at hf
    | succ f =>
      obtain ⟨l, h1, h2⟩ := ih f (i + x.length) (acc ++ [⟨t.1, t.2.1, t.2.2, i⟩]) (by simp only [List.length_append] at hf; omega)
      refine ⟨⟨t.1, t.2.1, t.2.2, i⟩ :: l, ?_, by rw [List.map_cons, h2]; rfl⟩
      rw [e, List.cons_append] at ho ⊢
      unfold CL.toks
      rw [if_neg (by simp [hsp]), ho]
      simp only [if_true]
      rw [← List.cons_append, ← e, List.drop_left, h1]
      simp
theorem Lexes.tokens {s : List UInt8} {L : List Et} (h : Lexes s L) (hl : s.length ≤ 1024) : (tokens s).2 = (0, 0) ∧ (tokens s).1.map er = L := by
  obtain ⟨l, h1, h2⟩ := h.toks (s.length + 1) 0 [] (by omega)
  unfold CL.tokens tokF
  rw [if_neg (by omega), List.drop_zero, h1]
  exact ⟨rfl, h2⟩
theorem Lexes.spaces {p r : List UInt8} {L : List Et} (hp : p.all (at8 spc) = true) (h : Lexes r L) : Lexes (p ++ r) L := by
  induction p with
  | nil => exact h
  | cons c p ih =>
    simp only [List.all_cons, Bool.and_eq_true] at hp
    exact .space c _ L hp.1 (ih hp.2)
/-- lexemes, each with space behind it -/
theorem Lexes.joins : ∀ (ps : List (List UInt8 × List UInt8 × Et)), (∀ p ∈ ps, IsLx p.1 p.2.2 ∧ p.2.1 ≠ [] ∧ p.2.1.all (at8 spc) = true) →
    Lexes (ps.flatMap fun p => p.1 ++ p.2.1) (ps.map (·.2.2) ++ [(5, [], 0)])
  | [], _ => .done
  | p :: ps, h => by
    obtain ⟨h1, h2, h3⟩ := h p (by simp)
    have ih := Lexes.joins ps (fun q hq => h q (by simp [hq]))
    rw [List.flatMap_cons, List.map_cons, List.cons_append, List.append_assoc]
    refine .tok p.1 p.2.2 _ _ h1 ?_ (ih.spaces h3)
    intro c l d q _ e
    cases hp : p.2.1 with
    | nil => exact absurd hp h2
    | cons z zs =>
      rw [hp] at e h3
      simp only [List.cons_append, List.cons.injEq] at e
      simp only [List.all_cons, Bool.and_eq_true] at h3
      rw [← e.1]
      exact space_stops h3.1
/-- the other way round: what was read as a token is a lexeme -/
theorem one_is {r : List UInt8} {i n : Nat} {t : Tk} (h : one r i = (0, t, n)) : ∃ x r', r = x ++ r' ∧ x.length = n ∧ IsLx x (er t) ∧ t.pos = i := by
  unfold one at h
  cases r with
  | nil => simp at h
  | cons c r =>
    simp only at h
    by_cases h1 : at8 ltr c = true
    · rw [if_pos h1] at h
      by_cases h2 : 12 < spanN prt (c :: r)
      · rw [if_pos h2] at h; simp at h
      · rw [if_neg h2] at h
        injection h with _ h
        injection h with h hn
        subst h hn
        have e := take_span prt (c :: r)
        have e2 : (c :: r).takeWhile (at8 prt) = c :: r.takeWhile (at8 prt) := by simp [prt_ltr h1]
        refine ⟨(c :: r).takeWhile (at8 prt), (c :: r).dropWhile (at8 prt), List.takeWhile_append_dropWhile.symm, rfl, ⟨c, r.takeWhile (at8 prt), e2, .inl ⟨h1, List.all_takeWhile, ?_, ?_⟩⟩, rfl⟩
        · have : spanN prt (c :: r) = ((c :: r).takeWhile (at8 prt)).length := rfl; omega
        · simp only [er]; rw [e]
    · rw [if_neg h1] at h
      simp only [Bool.not_eq_true] at h1
      by_cases h2 : at8 cap c = true
      · rw [if_pos h2] at h
        by_cases h3 : prs ((c :: r).take (spanN cap (c :: r))) = 0
        · rw [if_pos h3] at h; simp at h
        · rw [if_neg h3] at h
          injection h with _ h
          injection h with h hn
          subst h hn
          have e := take_span cap (c :: r)
          have e2 : (c :: r).takeWhile (at8 cap) = c :: r.takeWhile (at8 cap) := by simp [h2]
          rw [e] at h3
          refine ⟨(c :: r).takeWhile (at8 cap), (c :: r).dropWhile (at8 cap), List.takeWhile_append_dropWhile.symm, rfl, ⟨c, r.takeWhile (at8 cap), e2, .inr (.inl ⟨h1, h2, List.all_takeWhile, h3, ?_⟩)⟩, rfl⟩
          simp only [er]; rw [e]
      · rw [if_neg h2] at h
        simp only [Bool.not_eq_true] at h2
        by_cases h3 : at8 dig c = true
        · rw [if_pos h3] at h
          by_cases h4 : 4 < spanN dig (c :: r) ∨ (1 < spanN dig (c :: r) ∧ c = 48)
          · rw [if_pos h4] at h; simp at h
          · rw [if_neg h4] at h
            injection h with _ h
            injection h with h hn
            subst h hn
            have e := take_span dig (c :: r)
            have e2 : (c :: r).takeWhile (at8 dig) = c :: r.takeWhile (at8 dig) := by simp [h3]
            refine ⟨(c :: r).takeWhile (at8 dig), (c :: r).dropWhile (at8 dig), List.takeWhile_append_dropWhile.symm, rfl, ⟨c, r.takeWhile (at8 dig), e2, .inr (.inr (.inl ⟨h1, h2, h3, List.all_takeWhile, h4, ?_⟩))⟩, rfl⟩
            simp only [er]; rw [e]
        · rw [if_neg h3] at h
          simp only [Bool.not_eq_true] at h3
          by_cases h4 : at8 pun c = true
          · rw [if_pos h4] at h
            injection h with _ h
            injection h with h hn
            subst h hn
            exact ⟨[c], r, rfl, rfl, ⟨c, [], rfl, .inr (.inr (.inr ⟨h1, h2, h3, h4, rfl, rfl⟩))⟩, rfl⟩
          · rw [if_neg h4] at h; simp at h
/-- the piece of s from a to b -/
def piece (s : List UInt8) (a b : Nat) : List UInt8 := (s.drop a).take (b - a)
theorem piece_app (s : List UInt8) {a b c : Nat} (h1 : a ≤ b) (h2 : b ≤ c) : piece s a c = piece s a b ++ piece s b c := by
  unfold piece
  rw [show c - a = (b - a) + (c - b) by omega, List.take_add, List.drop_drop]
  congr 3
  omega
/-- the k-th token as it stands in s: a lexeme, with space behind it up to the next token -/
def Apart (s : List UInt8) (l : List Tk) : Prop := ∀ k, (h : k + 1 < l.length) → ∃ x p, piece s l[k].pos.toNat l[k + 1].pos.toNat = x ++ p ∧ IsLx x (er l[k]) ∧ p.all (at8 spc) = true
def ApartI (s : List UInt8) (i : Nat) (l : List Tk) : Prop := Apart s l ∧ ∃ h : 0 < l.length, i ≤ l[0].pos.toNat ∧ l[0].pos.toNat ≤ s.length ∧ (piece s i l[0].pos.toNat).all (at8 spc) = true
theorem tokens_apart {s : List UInt8} (h : (tokens s).2.2 = 0) : Apart s (tokens s).1 := by
  refine (tokens_ind (ApartI s) ?_ ?_ ?_ h).1.1
  · refine ⟨fun k hk => by simp at hk, by simp, ?_⟩
    simp [piece]
  · intro i l hi hsp hp
    obtain ⟨h1, h2, h3, h4, h5⟩ := hp
    refine ⟨h1, h2, by omega, h4, ?_⟩
    rw [piece_app s (show i ≤ i + 1 by omega) h3, List.all_append, h5, Bool.and_true]
    have e : piece s i (i + 1) = [s[i]] := by
      unfold piece
      rw [List.drop_eq_getElem_cons hi, show i + 1 - i = 1 by omega]
      rfl
    rw [e]
    simp [hsp]
  · intro i l t n hi hns ho hn hin hp
    obtain ⟨h1, h2, h3, h4, h5⟩ := hp
    obtain ⟨x, r', e1, e2, e3, e4⟩ := one_is ho
    have e5 : t.pos.toNat = i := by omega
    refine ⟨fun k hk => ?_, by simp, by simp [e5], by simp [e5]; omega, ?_⟩
    · cases k with
      | zero =>
        simp only [List.getElem_cons_zero, Nat.zero_add, List.getElem_cons_succ]
        refine ⟨x, piece s (i + n) l[0].pos.toNat, ?_, e3, h5⟩
        rw [e5, piece_app s (show i ≤ i + n by omega) h3]
        congr 1
        unfold piece
        rw [e1, show i + n - i = x.length by omega, List.take_left]
      | succ k =>
        have := h1 k (by simpa using hk)
        simpa using this
    · simp only [List.getElem_cons_zero]
      rw [e5]
      simp [piece]
/-- the text of a number -/
theorem digits_lx {n : Nat} (h : n ≤ 9999) : IsLx (digits n) (3, [], (n : Int)) := by
  have hd : ∀ c ∈ digits n, at8 dig c = true := by
    intro c hc
    unfold digits at hc
    split at hc
    · simp at hc; subst hc; decide
    · exact D_dig 6 n c hc
  have hv : val (digits n) = n := by
    unfold digits
    split
    · rename_i h0; subst h0; decide
    · exact D_val 6 n (by omega)
  have hl : (digits n).length ≤ 4 := by
    unfold digits
    split
    · simp
    · exact D_len_le 6 n 4 (by omega)
  have hh : 1 < (digits n).length → ∀ c l, digits n = c :: l → c ≠ 48 := by
    intro h1 c l e
    unfold digits at e h1
    split at e
    · rename_i h0; rw [if_pos h0] at h1; simp at h1
    · rename_i h0
      have h2 : 0 < (D 6 n).length := by rw [e]; simp
      have := D_head 6 n h2 (by omega)
      simp only [e, List.getElem_cons_zero] at this
      exact this
  have h0 : 0 < (digits n).length := by
    unfold digits
    split
    · simp
    · have := D_len_ge 6 n 0 (by omega) (by omega); omega
  cases hx : digits n with
  | nil => rw [hx] at h0; simp at h0
  | cons c l =>
    have hc := hd c (by rw [hx]; simp)
    refine ⟨c, l, rfl, .inr (.inr (.inl ⟨?_, ?_, hc, ?_, ?_, by rw [← hx, hv]⟩))⟩
    · simp only [at8, dig, ltr, decide_eq_true_eq, decide_eq_false_iff_not] at *; omega
    · simp only [at8, dig, cap, decide_eq_true_eq, decide_eq_false_iff_not] at *; omega
    · exact List.all_eq_true.2 (fun z hz => hd z (by rw [hx]; simp [hz]))
    · rw [← hx]
      rintro (h1 | ⟨h1, h2⟩)
      · omega
      · exact hh h1 c l hx h2
end CL
