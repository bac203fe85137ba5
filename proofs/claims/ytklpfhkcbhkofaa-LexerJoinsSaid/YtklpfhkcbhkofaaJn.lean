
/- Plain, for LexerJoins: no byte of a lexeme is a space. No program in sight. -/
import Derived.Test.YtklpfhkcbhkofaaPt
namespace CL
theorem nsp_all : ∀ c : Fin 256, (at8 ltr (UInt8.ofNat c.val) = true ∨ at8 prt (UInt8.ofNat c.val) = true ∨ at8 cap (UInt8.ofNat c.val) = true ∨ at8 dig (UInt8.ofNat c.val) = true ∨ at8 pun (UInt8.ofNat c.val) = true) → at8 spc (UInt8.ofNat c.val) = false := by decide +kernel
theorem nsp {c : UInt8} (h : at8 ltr c = true ∨ at8 prt c = true ∨ at8 cap c = true ∨ at8 dig c = true ∨ at8 pun c = true) : at8 spc c = false := by
  have e : UInt8.ofNat (⟨c.toNat, c.toNat_lt⟩ : Fin 256).val = c := by simp
  have := nsp_all ⟨c.toNat, c.toNat_lt⟩
  rw [e] at this
  exact this h
theorem lx_all {x : List UInt8} {t : Et} (h : IsLx x t) : ∀ c ∈ x, at8 spc c = false := by
  obtain ⟨c, l, rfl, h⟩ := h
  intro d hd
  rcases h with ⟨h1, h2, _⟩ | ⟨_, h1, h2, _⟩ | ⟨_, _, h1, h2, _⟩ | ⟨_, _, _, h1, h2, _⟩
  · rcases List.mem_cons.1 hd with rfl | hd
    · exact nsp (.inl h1)
    · exact nsp (.inr (.inl (List.all_eq_true.1 h2 d hd)))
  · rcases List.mem_cons.1 hd with rfl | hd
    · exact nsp (.inr (.inr (.inl h1)))
    · exact nsp (.inr (.inr (.inl (List.all_eq_true.1 h2 d hd))))
  · rcases List.mem_cons.1 hd with rfl | hd
    · exact nsp (.inr (.inr (.inr (.inl h1))))
    · exact nsp (.inr (.inr (.inr (.inl (List.all_eq_true.1 h2 d hd)))))
  · subst h2
    rcases List.mem_cons.1 hd with rfl | hd
    · exact nsp (.inr (.inr (.inr (.inr h1))))
    · cases hd
/-- the lexeme of each token -/
theorem apart_fun {s : List UInt8} {l : List Tk} (h : Apart s l) : ∃ X : Nat → List UInt8, ∀ k, (hk : k + 1 < l.length) → ∃ p, piece s l[k].pos.toNat l[k + 1].pos.toNat = X k ++ p ∧ IsLx (X k) (er l[k]) ∧ p.all (at8 spc) = true := by
  refine ⟨fun k => if hk : k + 1 < l.length then Classical.choose (h k hk) else [], fun k hk => ?_⟩
  simp only [dif_pos hk]
  exact Classical.choose_spec (h k hk)
/-- the first lexemes, each with a space behind it -/
def joined (X : Nat → List UInt8) : Nat → List UInt8
  | 0 => []
  | k + 1 => joined X k ++ (X k ++ [32])
theorem joined_flat (X : Nat → List UInt8) (T : Nat → Et) : ∀ k, joined X k = ((List.range k).map fun i => (X i, ([32] : List UInt8), T i)).flatMap fun p => p.1 ++ p.2.1
  | 0 => rfl
  | k + 1 => by rw [joined, joined_flat X T k, List.range_succ, List.map_append, List.flatMap_append]; simp
theorem joined_len {X : Nat → List UInt8} {n : Nat} : ∀ {k : Nat}, (∀ i, i < k → (X i).length ≤ n) → (joined X k).length ≤ k * (n + 1)
  | 0, _ => by simp [joined]
  | k + 1, h => by
    have h1 := joined_len (k := k) (fun i hi => h i (by omega))
    have h2 := h k (by omega)
    simp only [joined, List.length_append, List.length_cons, List.length_nil, Nat.add_mul] at h1 ⊢
    omega
theorem piece_len {s : List UInt8} {a b : Nat} (hb : b ≤ s.length) : (piece s a b).length = b - a := by
  unfold piece; simp; omega
theorem piece_get {s x p : List UInt8} {a b : Nat} (hb : b ≤ s.length) (h : piece s a b = x ++ p) : b - a = x.length + p.length ∧ (s.drop a).take x.length = x ∧ (∀ i, (hi : i < p.length) → ∃ h : a + x.length + i < s.length, s[a + x.length + i] = p[i]) ∧ (∀ i, (hi : i < x.length) → ∃ h : a + i < s.length, s[a + i] = x[i]) := by
  have hl := piece_len (a := a) hb
  rw [h, List.length_append] at hl
  have hg : ∀ i, (hi : i < (x ++ p).length) → ∃ h : a + i < s.length, s[a + i] = (x ++ p)[i] := by
    intro i hi
    have hi' : i < b - a := by rw [List.length_append] at hi; omega
    refine ⟨by omega, ?_⟩
    have e : (piece s a b)[i]? = some s[a + i] := by
      unfold piece
      rw [List.getElem?_take_of_lt hi', List.getElem?_drop, List.getElem?_eq_getElem]
    rw [h, List.getElem?_eq_getElem hi, Option.some.injEq] at e
    exact e.symm
  refine ⟨hl.symm, ?_, ?_, ?_⟩
  · have e : (piece s a b).take x.length = x := by rw [h, List.take_left]
    unfold piece at e
    rw [List.take_take, show min x.length (b - a) = x.length by omega] at e
    exact e
  · intro i hi
    obtain ⟨h1, h2⟩ := hg (x.length + i) (by rw [List.length_append]; omega)
    refine ⟨by omega, ?_⟩
    rw [List.getElem_append_right (by omega)] at h2
    simp only [Nat.add_sub_cancel_left] at h2
    rw [← h2]
    congr 1
    omega
  · intro i hi
    obtain ⟨h1, h2⟩ := hg i (by rw [List.length_append]; omega)
    exact ⟨h1, by rw [h2, List.getElem_append_left hi]⟩
theorem joined_toks {s : List UInt8} {l : List Tk} {X : Nat → List UInt8} (hP : Pl s 0 l)
    (hX : ∀ k, (hk : k + 1 < l.length) → ∃ p, piece s l[k].pos.toNat l[k + 1].pos.toNat = X k ++ p ∧ IsLx (X k) (er l[k]) ∧ p.all (at8 spc) = true)
    (hl : (joined X (l.length - 1)).length ≤ 1024) :
    (tokens (joined X (l.length - 1))).2 = (0, 0) ∧ (tokens (joined X (l.length - 1))).1.map er = l.map er := by
  obtain ⟨hl0, hlast⟩ := Pl.last hP
  have hj := Lexes.joins ((List.range (l.length - 1)).map fun i => (X i, ([32] : List UInt8), if h : i < l.length then er l[i] else (0, [], 0))) (by
    intro p hp
    rw [List.mem_map] at hp
    obtain ⟨i, hi, rfl⟩ := hp
    rw [List.mem_range] at hi
    obtain ⟨_, _, h2, _⟩ := hX i (by omega)
    simp only [dif_pos (show i < l.length by omega)]
    exact ⟨h2, by simp, by decide⟩)
  rw [← joined_flat] at hj
  have ht := hj.tokens hl
  refine ⟨ht.1, ht.2.trans ?_⟩
  apply List.ext_getElem
  · simp; omega
  · intro i h1 h2
    simp only [List.length_map] at h2
    by_cases hi : i < l.length - 1
    · rw [List.getElem_append_left (by simpa using hi)]
      simp [show i < l.length by omega]
    · obtain rfl : i = l.length - 1 := by omega
      rw [List.getElem_append_right (by simp)]
      simp only [List.getElem_map, hlast]
      simp [er]
theorem er_at {l m : List Tk} (h : m.map er = l.map er) : m.length = l.length ∧ ∀ i, (h1 : i < m.length) → (h2 : i < l.length) → m[i].kind = l[i].kind ∧ m[i].text = l[i].text ∧ m[i].num = l[i].num := by
  refine ⟨by simpa using congrArg List.length h, fun i h1 h2 => ?_⟩
  have e : (m.map er)[i]'(by simpa using h1) = (l.map er)[i]'(by simpa using h2) := by simp only [h]
  simp only [List.getElem_map, er, Prod.mk.injEq] at e
  exact e
end CL
