
/- Plain: a text that the lexer reads is its lexemes with space between; wider space leaves the tokens as they are. No program in sight. -/
import Derived.Test.YtlfnpkjfnafeaaaDoorZ3
namespace CL
/-- from place i on the text S holds the tokens l, one behind the other -/
inductive Chain (S : List UInt8) : Nat → List Tk → Prop
  | fin (i : Nat) : S.length = i → Chain S i [⟨5, [], 0, i⟩]
  | tok (i : Nat) (t : Tk) (x sp : List UInt8) (l : List Tk) : t.pos = (i : Int) → IsLx x (er t) → sp.all (at8 spc) = true → S.drop i = x ++ (sp ++ S.drop (i + x.length + sp.length)) → i + x.length + sp.length ≤ S.length → Chain S (i + x.length + sp.length) l → Chain S i (t :: l)
theorem toks_chain (S : List UInt8) : ∀ (f i : Nat) (acc : List Tk), (S.drop i).length < f → i ≤ S.length → (toks f i (S.drop i) acc).2.2 = 0 →
    ∃ l sp, toks f i (S.drop i) acc = (acc ++ l, 0, 0) ∧ S.drop i = sp ++ S.drop (i + sp.length) ∧ sp.all (at8 spc) = true ∧ i + sp.length ≤ S.length ∧ Chain S (i + sp.length) l := by
  intro f
  induction f with
  | zero => intro i acc h; omega
  | succ f ih =>
    intro i acc hf hi he
    cases hr : S.drop i with
    | nil =>
      have hn : S.length = i := by
        have := congrArg List.length hr
        simp at this; omega
      refine ⟨[⟨5, [], 0, i⟩], [], by simp [toks], by simp [hr], rfl, by simpa using hi, ?_⟩
      exact .fin i hn
    | cons c r =>
      have hlt : i < S.length := by
        have := congrArg List.length hr
        simp at this; omega
      have hr1 : S.drop (i + 1) = r := by
        rw [← List.drop_drop, hr]; rfl
      rw [hr] at he hf
      simp only [toks] at he ⊢
      by_cases hs : at8 spc c = true
      · rw [if_pos hs] at he ⊢
        rw [← hr1] at he ⊢
        obtain ⟨l, sp, h1, h2, h3, h4, h5⟩ := ih (i + 1) acc (by rw [hr1]; simpa using hf) (by omega) he
        refine ⟨l, c :: sp, h1, ?_, by simp [hs, h3], by simp only [List.length_cons]; omega, ?_⟩
        · rw [List.cons_append, List.length_cons, show i + (sp.length + 1) = i + 1 + sp.length from by omega, ← h2]
        · rw [List.length_cons, show i + (sp.length + 1) = i + 1 + sp.length from by omega]; exact h5
      · rw [if_neg hs] at he ⊢
        by_cases ho : (one (c :: r) i).1 = 0
        · rw [if_pos ho] at he ⊢
          generalize hone : one (c :: r) i = o at *
          obtain ⟨e, t, n⟩ := o
          simp only at ho he ⊢
          subst ho
          obtain ⟨x, r', hx, hxl, hlx, hpos⟩ := one_is hone
          have hln := one_len (r := c :: r) (i := i) (by rw [hone])
          rw [hone] at hln
          simp only at hln
          have hd : (c :: r).drop n = S.drop (i + n) := by rw [← hr, List.drop_drop]
          have hdl := congrArg List.length hr
          simp only [List.length_drop] at hdl
          rw [hd] at he ⊢
          obtain ⟨l, sp, h1, h2, h3, h4, h5⟩ := ih (i + n) (acc ++ [t]) (by simp only [List.length_drop, List.length_cons] at *; omega) (by simp only [List.length_cons] at *; omega) he
          refine ⟨t :: l, [], by rw [h1]; simp, by simp [hr], rfl, by simpa using hi, ?_⟩
          subst hxl
          refine .tok i t x sp l hpos hlx h3 ?_ h4 h5
          rw [← h2, hr, hx]
          congr 1
          rw [← hd, hx]; simp
        · rw [if_neg ho] at he
          exact absurd he ho
/-- the text again, with n more bytes of space behind each lexeme -/
def wid (S : List UInt8) (n : Nat) : List Tk → List UInt8
  | t :: u :: l => (S.drop t.pos.toNat).take (u.pos.toNat - t.pos.toNat) ++ (List.replicate n 32 ++ wid S n (u :: l))
  | _ => []
theorem Chain.head {S : List UInt8} {i : Nat} {l : List Tk} (h : Chain S i l) : ∃ u l', l = u :: l' ∧ u.pos = (i : Int) := by
  cases h with
  | fin _ _ => exact ⟨_, _, rfl, rfl⟩
  | tok _ t x sp l hp => exact ⟨_, _, rfl, hp⟩
theorem Chain.wid_lexes {S : List UInt8} {n : Nat} (hn : 1 ≤ n) {i : Nat} {l : List Tk} (h : Chain S i l) : Lexes (wid S n l) (l.map er) := by
  induction h with
  | fin i h => exact .done
  | tok i t x sp l hp hx hsp hd hle hc ih =>
    obtain ⟨u, l', rfl, hu⟩ := hc.head
    have hseg : (S.drop t.pos.toNat).take (u.pos.toNat - t.pos.toNat) = x ++ sp := by
      rw [hp, hu, Int.toNat_natCast, Int.toNat_natCast, hd, show i + x.length + sp.length - i = (x ++ sp).length from by rw [List.length_append]; omega, ← List.append_assoc, List.take_left]
    simp only [wid, hseg, List.map_cons, List.append_assoc]
    simp only [List.map_cons] at ih
    have hr : (List.replicate n (32 : UInt8)).all (at8 spc) = true := by
      rw [List.all_eq_true]
      intro b hb
      rw [List.eq_of_mem_replicate hb]; decide
    refine .tok x (er t) _ _ hx ?_ ((ih.spaces hr).spaces hsp)
    intro c l d q _ e
    cases hsq : sp with
    | nil =>
      rw [hsq] at e
      cases n with
      | zero => omega
      | succ n =>
        rw [List.nil_append, List.replicate_succ, List.cons_append] at e
        injection e with e1 e2
        rw [← e1]
        exact space_stops (by decide)
    | cons z zs =>
      rw [hsq] at e hsp
      simp only [List.cons_append, List.cons.injEq] at e
      simp only [List.all_cons, Bool.and_eq_true] at hsp
      rw [← e.1]
      exact space_stops hsp.1
theorem Chain.get {S : List UInt8} {i : Nat} {l : List Tk} (h : Chain S i l) : ∀ j (h1 : j < l.length) (h2 : j + 1 < l.length), ∃ a b : Nat, l[j].pos = (a : Int) ∧ l[j + 1].pos = (b : Int) ∧ a ≤ b ∧ b ≤ S.length := by
  induction h with
  | fin i h => intro j h1 h2; simp at h2
  | tok i t x sp l hp hx hsp hd hle hc ih =>
    intro j h1 h2
    cases j with
    | zero =>
      obtain ⟨u, l', rfl, hu⟩ := hc.head
      exact ⟨i, i + x.length + sp.length, hp, hu, by omega, hle⟩
    | succ j => exact ih j (by simpa using h1) (by simpa using h2)
theorem Chain.len {S : List UInt8} {i : Nat} {l : List Tk} (h : Chain S i l) : l.length + i ≤ S.length + 1 := by
  induction h with
  | fin i h => simp; omega
  | tok i t x sp l hp hx hsp hd hle hc ih =>
    obtain ⟨c, r, rfl, _⟩ := hx
    simp only [List.length_cons] at *
    omega
theorem Chain.wid_len {S : List UInt8} {n : Nat} {i : Nat} {l : List Tk} (h : Chain S i l) : (wid S n l).length + i ≤ S.length + n * l.length := by
  induction h with
  | fin i h => simp [wid]; omega
  | tok i t x sp l hp hx hsp hd hle hc ih =>
    obtain ⟨u, l', rfl, hu⟩ := hc.head
    simp only [wid, List.length_append, List.length_replicate, List.length_take, List.length_cons, hp, hu, Int.toNat_natCast] at *
    have : n * (l'.length + 1 + 1) = n * (l'.length + 1) + n := by rw [Nat.mul_succ]
    omega
theorem wid_step {S : List UInt8} {n j a b : Nat} {l : List Tk} (h1 : j < l.length) (h2 : j + 1 < l.length) (ha : l[j].pos = (a : Int)) (hb : l[j + 1].pos = (b : Int)) :
    wid S n (l.drop j) = (S.drop a).take (b - a) ++ (List.replicate n 32 ++ wid S n (l.drop (j + 1))) := by
  rw [List.drop_eq_getElem_cons h1, List.drop_eq_getElem_cons h2, wid, ha, hb, Int.toNat_natCast, Int.toNat_natCast]
theorem wid_end {S : List UInt8} {n j : Nat} {l : List Tk} (h : l.length ≤ j + 1) : wid S n (l.drop j) = [] := by
  by_cases hj : j < l.length
  · rw [List.drop_eq_getElem_cons hj, List.drop_eq_nil_of_le (by omega)]; rfl
  · rw [List.drop_eq_nil_of_le (by omega)]; rfl
/-- what the lexer reads is a chain -/
theorem tokens_chain {s : List UInt8} (he : (tokens s).2.2 = 0) : ∃ i, Chain s i (tokens s).1 ∧ s.length ≤ 1024 := by
  have ht : tokens s = toks (s.length + 1) 0 s [] ∧ s.length ≤ 1024 := by
    unfold tokens at he ⊢
    split
    · rename_i h; rw [if_pos h] at he; simp at he
    · exact ⟨by simp [tokF], by omega⟩
  obtain ⟨l, sp, h1, h2, h3, h4, h5⟩ := toks_chain s (s.length + 1) 0 [] (by simp) (by omega) (by rw [List.drop_zero, ← ht.1]; exact he)
  rw [List.drop_zero, ← ht.1, List.nil_append] at h1
  rw [h1]
  exact ⟨_, h5, ht.2⟩
/-- the widened text means the same -/
theorem wid_same {s : List UInt8} {n : Nat} (hn : 1 ≤ n) (he : (tokens s).2.2 = 0) (hl : (wid s n (tokens s).1).length ≤ 1024) :
    (parseS s).1 = (parseS (wid s n (tokens s).1)).1 ∧ (parseS s).2.2 = (parseS (wid s n (tokens s).1)).2.2 := by
  have ht : tokens s = toks (s.length + 1) 0 s [] := by
    unfold tokens at he ⊢
    split
    · rename_i h; rw [if_pos h] at he; simp at he
    · simp [tokF]
  have hc := toks_chain s (s.length + 1) 0 [] (by simp) (by omega) (by rw [List.drop_zero, ← ht]; exact he)
  obtain ⟨l, sp, h1, h2, h3, h4, h5⟩ := hc
  rw [List.drop_zero, ← ht, List.nil_append] at h1
  rw [h1] at hl ⊢
  simp only at hl ⊢
  obtain ⟨h6, h7⟩ := (h5.wid_lexes hn).tokens hl
  refine parse_same he (by rw [h6]) ?_
  rw [h1, h7]
end CL
