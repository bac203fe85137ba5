
/- Plain facts on ledgers: what entries say of a name, which names they have, which ledgers are valid. No program in sight. -/
import Derived.Test.YtaebindbadfaaaaEx
namespace CL
structure En where
  n : List UInt8
  b : Am
  a : Am
deriving DecidableEq
structure Sv where
  l : Int
  t : Int
deriving DecidableEq
structure Lg where
  es : List En
  ss : List Sv
deriving DecidableEq
/-- what entries say for a name -/
def held (l : List En) (s : List UInt8) : Am := l.foldl (fun x e => if e.n = s then e.a else x) ⟨0, 0⟩
/-- the names of entries, each once, in the order of their first entries -/
def dn (l : List En) : List (List UInt8) := l.foldl (fun x e => if e.n ∈ x then x else x ++ [e.n]) []
theorem held_nil (s : List UInt8) : held [] s = ⟨0, 0⟩ := rfl
theorem held_snoc (l : List En) (e : En) (s : List UInt8) : held (l ++ [e]) s = if e.n = s then e.a else held l s := by simp [held]
theorem dn_nil : dn [] = [] := rfl
theorem dn_snoc (l : List En) (e : En) : dn (l ++ [e]) = if e.n ∈ dn l then dn l else dn l ++ [e.n] := by unfold dn; rw [List.foldl_append]; rfl
theorem take_snoc {α : Type} {l : List α} {j : Nat} (hj : j < l.length) : l.take (j + 1) = l.take j ++ [l[j]] := by simp
theorem held_step {l : List En} {j : Nat} (hj : j < l.length) (s : List UInt8) : held (l.take (j + 1)) s = if l[j].n = s then l[j].a else held (l.take j) s := by rw [take_snoc hj, held_snoc]
theorem dn_step {l : List En} {j : Nat} (hj : j < l.length) : dn (l.take (j + 1)) = if l[j].n ∈ dn (l.take j) then dn (l.take j) else dn (l.take j) ++ [l[j].n] := by rw [take_snoc hj, dn_snoc]
/-- induction from the end -/
theorem rev_ind {α : Type} {p : List α → Prop} (h0 : p []) (h1 : ∀ l a, p l → p (l ++ [a])) (l : List α) : p l := by
  rw [← List.reverse_reverse l]
  induction l.reverse with
  | nil => exact h0
  | cons a r ih => rw [List.reverse_cons]; exact h1 _ _ ih
theorem dn_nodup (l : List En) : (dn l).Nodup := by
  induction l using rev_ind with
  | h0 => simp [dn_nil]
  | h1 l e ih =>
    rw [dn_snoc]
    split
    · exact ih
    · rename_i h
      rw [List.nodup_append]
      refine ⟨ih, by simp, fun a ha b hb => ?_⟩
      simp at hb
      rintro rfl
      rw [hb] at ha
      exact h ha
theorem mem_dn {l : List En} {s : List UInt8} : s ∈ dn l ↔ ∃ e ∈ l, e.n = s := by
  induction l using rev_ind with
  | h0 => simp [dn_nil]
  | h1 l e ih =>
    rw [dn_snoc]
    split <;> rename_i h
    · rw [ih]
      constructor
      · rintro ⟨x, hx, rfl⟩; exact ⟨x, by simp [hx], rfl⟩
      · rintro ⟨x, hx, rfl⟩
        rcases List.mem_append.1 hx with hx | hx
        · exact ⟨x, hx, rfl⟩
        · simp at hx; subst hx; exact ih.1 h
    · rw [List.mem_append, ih]
      constructor
      · rintro (⟨x, hx, rfl⟩ | h)
        · exact ⟨x, by simp [hx], rfl⟩
        · simp at h; exact ⟨e, by simp, h.symm⟩
      · rintro ⟨x, hx, rfl⟩
        rcases List.mem_append.1 hx with hx | hx
        · exact Or.inl ⟨x, hx, rfl⟩
        · simp at hx; subst hx; simp
theorem held_out {l : List En} {s : List UInt8} (h : ∀ e ∈ l, e.n ≠ s) : held l s = ⟨0, 0⟩ := by
  induction l using rev_ind with
  | h0 => rfl
  | h1 l e ih => rw [held_snoc, if_neg (h e (by simp)), ih (fun x hx => h x (by simp [hx]))]
theorem dn_mono (l r : List En) : (dn l).length ≤ (dn (l ++ r)).length := by
  induction r using rev_ind with
  | h0 => simp
  | h1 r e ih =>
    rw [← List.append_assoc, dn_snoc]
    split
    · exact ih
    · simp; omega
theorem dn_take_le (l : List En) (j : Nat) : (dn (l.take j)).length ≤ (dn l).length := by
  have := dn_mono (l.take j) (l.drop j)
  rwa [List.take_append_drop] at this
theorem dn_le (l : List En) : (dn l).length ≤ l.length := by
  induction l using rev_ind with
  | h0 => simp [dn_nil]
  | h1 l e ih => rw [dn_snoc]; split <;> simp <;> omega
/-- b grows from a -/
def grows (a b : Am) : Bool := usable b && !decide (a = b) && (zer a || (usable a && (if a.m ≠ 0 then cov b.m a.m else decide (a.u < b.u))))
/-- how far an amount has grown -/
def rank (a : Am) : Nat := if a.m = 0 then a.u.toNat else if a.m = 1 then 1 else if a.m = 2 ∨ a.m = 3 then 2 else if a.m = 4 then 3 else 4
theorem usable_iff {a : Am} : usable a = true ↔ (1 ≤ a.m ∧ a.m ≤ 5 ∧ a.u = 0) ∨ (a.m = 0 ∧ 1 ≤ a.u ∧ a.u ≤ 8) := by
  simp [usable, vld]; omega
theorem usable_rank {a : Am} (h : usable a = true) : 1 ≤ rank a ∧ rank a ≤ 8 := by
  unfold rank
  rcases usable_iff.1 h with h | h
  · rw [if_neg (by omega)]
    split <;> (try split) <;> (try split) <;> omega
  · rw [if_pos h.1]; omega
theorem cov_rank {a b : Int} (ha : vld a = true) (hb : vld b = true) (h : cov b a = true) (hne : a ≠ b) : rank ⟨a, 0⟩ < rank ⟨b, 0⟩ := by
  have := of_decide_eq_true (by2 (p := fun a b => decide (cov b a = true → a ≠ b → rank ⟨a, 0⟩ < rank ⟨b, 0⟩)) (by decide) ha hb)
  exact this h hne
theorem grows_rank {a b : Am} (h : grows a b = true) : rank a < rank b ∧ rank b ≤ 8 := by
  simp only [grows, Bool.and_eq_true, Bool.or_eq_true, Bool.not_eq_true', decide_eq_false_iff_not] at h
  obtain ⟨⟨hb, hne⟩, h⟩ := h
  have r := usable_rank hb
  refine ⟨?_, r.2⟩
  rcases h with h | ⟨ha, h⟩
  · rw [zer_iff.1 h]; simp [rank]; exact r.1
  · obtain ⟨am, au⟩ := a
    obtain ⟨bm, bu⟩ := b
    rcases usable_iff.1 ha with h1 | h1 <;> rcases usable_iff.1 hb with h2 | h2 <;> simp only at h1 h2 h
    · rw [if_pos (by omega)] at h
      obtain rfl : au = 0 := by omega
      obtain rfl : bu = 0 := by omega
      exact cov_rank (vld_t (by omega) (by omega)) (vld_t (by omega) (by omega)) h (fun e => hne (by rw [e]))
    · rw [if_pos (by omega), h2.1, cov_nl vld_zero] at h; cases h
    · rw [if_neg (by omega)] at h; simp at h; omega
    · rw [if_neg (by omega)] at h
      simp at h
      simp only [rank, h1.1, h2.1, if_true]
      omega
theorem grows_zero {b : Am} : grows ⟨0, 0⟩ b = usable b := by
  by_cases h : usable b = true
  · have : b ≠ ⟨0, 0⟩ := by rintro rfl; revert h; decide
    simp [grows, h, zer, this.symm]
  · simp at h; simp [grows, h]
theorem grows_use {a b : Am} (h : grows a b = true) : usable b = true := by
  simp only [grows, Bool.and_eq_true] at h; exact h.1.1
theorem grows_trans {a b c : Am} (h : grows a b = true) (k : grows b c = true) : grows a c = true := by
  have r1 := grows_rank h
  have r2 := grows_rank k
  have hne : a ≠ c := by rintro rfl; omega
  have hc := grows_use k
  have hb := grows_use h
  simp only [grows, Bool.and_eq_true, Bool.or_eq_true, Bool.not_eq_true', decide_eq_false_iff_not] at h k ⊢
  refine ⟨⟨hc, hne⟩, ?_⟩
  have hzb : ¬ zer b = true := by intro e; rw [zer_iff.1 e] at hb; revert hb; decide
  rcases h.2 with h2 | ⟨ha, h2⟩
  · exact Or.inl h2
  · obtain ⟨_, k2⟩ := k.2.resolve_left hzb
    refine Or.inr ⟨ha, ?_⟩
    by_cases e : a.m = 0
    · rw [if_neg (by omega)] at h2 ⊢
      have hb2 : b.m = 0 := by
        rcases usable_iff.1 hb with h | h
        · simp at h2; rcases usable_iff.1 ha with h1 | h1 <;> omega
        · exact h.1
      rw [if_neg (by omega)] at k2
      simp at h2 k2 ⊢
      omega
    · rw [if_pos e] at h2 ⊢
      have hb2 : b.m ≠ 0 := by intro e2; rw [e2, cov_nl vld_zero] at h2; cases h2
      rw [if_pos hb2] at k2
      exact cov_trans k2 h2
theorem grows_asym {a b : Am} (h : grows a b = true) : grows b a = false := by
  cases k : grows b a
  · rfl
  · have r1 := grows_rank h; have r2 := grows_rank k; omega
/-- the program's way of saying it -/
theorem grows_prog {a b : Am} (hb : usable b = true) (hne : a ≠ b) (hz : ¬ a = ⟨0, 0⟩) (ha : usable a = true) : grows a b = if a.m ≠ 0 ∨ b.m ≠ 0 then (decide (a.m ≠ 0) && decide (b.m ≠ 0) && cov b.m a.m) else decide (a.u < b.u) := by
  have hz' : zer a = false := by cases h : zer a <;> simp_all [zer_iff]
  simp only [grows, hb, ha, hz', decide_eq_false hne, Bool.true_and, Bool.not_false, Bool.false_or]
  by_cases e : a.m = 0 <;> by_cases e2 : b.m = 0
  · simp [e, e2]
  · have : ¬ a.u < b.u := by rcases usable_iff.1 hb with h | h <;> rcases usable_iff.1 ha with h1 | h1 <;> omega
    simp [e, e2, this]
  · simp [e, e2, cov_nl vld_zero]
  · simp [e, e2]
theorem grows_nb {a b : Am} (h : usable b = false) : grows a b = false := by simp [grows, h]
theorem grows_eq {a b : Am} (h : a = b) : grows a b = false := by simp [grows, h]
theorem grows_na {a b : Am} (h : usable a = false) (hz : ¬ a = ⟨0, 0⟩) : grows a b = false := by
  have hz' : zer a = false := by cases h : zer a <;> simp_all [zer_iff]
  simp [grows, h, hz']
end CL
