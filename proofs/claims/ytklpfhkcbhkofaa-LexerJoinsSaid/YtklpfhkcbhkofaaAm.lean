
/- Plain facts on amounts: what fits a resource, which covers which, the least amount above two, which lists are compatible. No program in sight. -/
import Derived.Test.YtklpfhkcbhkofaaMd
namespace CL
structure Am where
  m : Int
  u : Int
deriving DecidableEq
def shaped (k u : Int) : Bool := decide (k = 1 ∧ u = 1 ∨ k = 2 ∧ 1 ≤ u ∧ u ≤ 8)
def zer (a : Am) : Bool := decide (a.m = 0 ∧ a.u = 0)
def fits (k u : Int) (a : Am) : Bool := shaped k u && (if k = 1 then vld a.m && a.u == 0 else decide (a.m = 0 ∧ 1 ≤ a.u ∧ a.u ≤ u))
def perm (k u : Int) (a : Am) : Bool := shaped k u && (zer a || fits k u a)
def covs (k u : Int) (a b : Am) : Bool := perm k u a && perm k u b && (zer b || (!zer a && (if k = 1 then cov a.m b.m else decide (b.u ≤ a.u))))
def join (k u : Int) (a b : Am) : Am :=
  if perm k u a && perm k u b then (if zer a then b else if zer b then a else if k = 1 then ⟨sup a.m b.m, 0⟩ else ⟨0, max a.u b.u⟩) else ⟨0, 0⟩
theorem shaped_iff {k u : Int} : shaped k u = true ↔ k = 1 ∧ u = 1 ∨ k = 2 ∧ 1 ≤ u ∧ u ≤ 8 := by simp [shaped]
theorem zer_iff {a : Am} : zer a = true ↔ a = ⟨0, 0⟩ := by cases a; simp [zer]
theorem perm_lock {a : Am} : perm 1 1 a = true ↔ a.u = 0 ∧ (a.m = 0 ∨ vld a.m = true) := by
  simp [perm, zer, fits, shaped]; grind
theorem perm_pool {u : Int} (h1 : 1 ≤ u) (h2 : u ≤ 8) {a : Am} : perm 2 u a = true ↔ a.m = 0 ∧ 0 ≤ a.u ∧ a.u ≤ u := by
  simp [perm, zer, fits, shaped]; omega
theorem perm_shaped {k u : Int} {a : Am} (h : perm k u a = true) : shaped k u = true := by simp [perm] at h; exact h.1
theorem perm_units {k u : Int} {a : Am} (h : perm k u a = true) : 0 ≤ a.u ∧ a.u ≤ u := by
  have hs := perm_shaped h
  rcases shaped_iff.1 hs with ⟨rfl, rfl⟩ | ⟨rfl, h1, h2⟩
  · have := perm_lock.1 h; omega
  · have := (perm_pool h1 h2).1 h; omega
theorem perm_mode {k u : Int} {a : Am} (h : perm k u a = true) : a.m = 0 ∨ vld a.m = true ∧ k = 1 ∧ a.u = 0 := by
  have hs := perm_shaped h
  rcases shaped_iff.1 hs with ⟨rfl, rfl⟩ | ⟨rfl, h1, h2⟩
  · have := perm_lock.1 h; grind
  · have := (perm_pool h1 h2).1 h; omega
theorem zero_perm {k u : Int} (h : shaped k u = true) : perm k u ⟨0, 0⟩ = true := by simp [perm, zer, h]
theorem vld_ne {m : Int} (h : vld m = true) : m ≠ 0 := by have := vld_iff.1 h; omega
/-- covering, on what is permitted -/
theorem covs_lock {a b : Am} (ha : perm 1 1 a = true) (hb : perm 1 1 b = true) : covs 1 1 a b = (decide (b.m = 0) || cov a.m b.m) := by
  have h1 := perm_lock.1 ha
  have h2 := perm_lock.1 hb
  have e : cov 0 b.m = false := cov_nl vld_zero
  unfold covs
  simp only [ha, hb, zer, h1.1, h2.1]
  by_cases e1 : a.m = 0 <;> by_cases e2 : b.m = 0 <;> simp [e1, e2, e]
theorem covs_pool {u : Int} (h1 : 1 ≤ u) (h2 : u ≤ 8) {a b : Am} (ha : perm 2 u a = true) (hb : perm 2 u b = true) : covs 2 u a b = decide (b.u ≤ a.u) := by
  have g1 := (perm_pool h1 h2).1 ha
  have g2 := (perm_pool h1 h2).1 hb
  unfold covs
  simp only [ha, hb, zer, g1.1, g2.1]
  by_cases e1 : a.u = 0 <;> by_cases e2 : b.u = 0 <;> simp [e1, e2] <;> omega
theorem covs_pl {k u : Int} {a b : Am} (h : covs k u a b = true) : perm k u a = true ∧ perm k u b = true := by simp [covs] at h; exact h.1
theorem covs_self (k u : Int) (a : Am) : covs k u a a = perm k u a := by
  by_cases h : perm k u a = true
  · rw [h]
    rcases shaped_iff.1 (perm_shaped h) with ⟨rfl, rfl⟩ | ⟨rfl, h1, h2⟩
    · rw [covs_lock h h, cov_self]; have := (perm_lock.1 h).2; simpa using this
    · rw [covs_pool h1 h2 h h]; simp
  · simp at h; rw [h]; simp [covs, h]
theorem covs_anti {k u : Int} {a b : Am} (h : covs k u a b = true) (h' : covs k u b a = true) : a = b := by
  obtain ⟨ha, hb⟩ := covs_pl h
  rcases shaped_iff.1 (perm_shaped ha) with ⟨rfl, rfl⟩ | ⟨rfl, h1, h2⟩
  · rw [covs_lock ha hb] at h; rw [covs_lock hb ha] at h'
    have g1 := perm_lock.1 ha; have g2 := perm_lock.1 hb
    have : a.m = b.m := by
      simp at h h'
      rcases h with h | h
      · rcases h' with h' | h'
        · omega
        · rw [h, cov_nl vld_zero] at h'; cases h'
      · rcases h' with h' | h'
        · rw [h', cov_nl vld_zero] at h; cases h
        · exact cov_anti h h'
    cases a; cases b; simp_all
  · rw [covs_pool h1 h2 ha hb] at h; rw [covs_pool h1 h2 hb ha] at h'
    have g1 := (perm_pool h1 h2).1 ha; have g2 := (perm_pool h1 h2).1 hb
    cases a; cases b; simp_all; omega
theorem covs_trans {k u : Int} {a b c : Am} (h : covs k u a b = true) (h' : covs k u b c = true) : covs k u a c = true := by
  obtain ⟨ha, hb⟩ := covs_pl h
  obtain ⟨_, hc⟩ := covs_pl h'
  rcases shaped_iff.1 (perm_shaped ha) with ⟨rfl, rfl⟩ | ⟨rfl, h1, h2⟩
  · rw [covs_lock ha hb] at h; rw [covs_lock hb hc] at h'; rw [covs_lock ha hc]
    simp at h h' ⊢
    rcases h' with h' | h'
    · exact .inl h'
    · rcases h with h | h
      · rw [h, cov_nl vld_zero] at h'; cases h'
      · exact .inr (cov_trans h h')
  · rw [covs_pool h1 h2 ha hb] at h; rw [covs_pool h1 h2 hb hc] at h'; rw [covs_pool h1 h2 ha hc]
    simp at h h' ⊢; omega
theorem join_lock {a b : Am} (ha : perm 1 1 a = true) (hb : perm 1 1 b = true) : join 1 1 a b = ⟨if a.m = 0 then b.m else if b.m = 0 then a.m else sup a.m b.m, 0⟩ := by
  have h1 := perm_lock.1 ha
  have h2 := perm_lock.1 hb
  unfold join
  simp only [ha, hb, zer, h1.1, h2.1]
  cases a; cases b
  simp_all
  split <;> simp_all
  split <;> simp_all
theorem join_pool {u : Int} (h1 : 1 ≤ u) (h2 : u ≤ 8) {a b : Am} (ha : perm 2 u a = true) (hb : perm 2 u b = true) : join 2 u a b = ⟨0, max a.u b.u⟩ := by
  have g1 := (perm_pool h1 h2).1 ha
  have g2 := (perm_pool h1 h2).1 hb
  unfold join
  simp only [ha, hb, zer, g1.1, g2.1]
  cases a; cases b
  simp_all
  split
  · simp_all; omega
  split
  · simp_all; omega
  · rfl
theorem join_perm {k u : Int} {a b : Am} (ha : perm k u a = true) (hb : perm k u b = true) : perm k u (join k u a b) = true := by
  rcases shaped_iff.1 (perm_shaped ha) with ⟨rfl, rfl⟩ | ⟨rfl, h1, h2⟩
  · rw [join_lock ha hb, perm_lock]
    have g1 := perm_lock.1 ha; have g2 := perm_lock.1 hb
    refine ⟨rfl, ?_⟩
    simp only
    split
    · exact g2.2
    split
    · exact g1.2
    · exact .inr (sup_vld (by simp_all) (by simp_all))
  · rw [join_pool h1 h2 ha hb, perm_pool h1 h2]
    have g1 := (perm_pool h1 h2).1 ha; have g2 := (perm_pool h1 h2).1 hb
    exact ⟨rfl, by simp only; omega⟩
theorem join_bad {k u : Int} {a b : Am} (h : ¬ (perm k u a = true ∧ perm k u b = true)) : join k u a b = ⟨0, 0⟩ := by
  unfold join; rw [if_neg (by simpa using h)]
theorem join_l {k u : Int} {a b : Am} (ha : perm k u a = true) (hb : perm k u b = true) : covs k u (join k u a b) a = true := by
  have hj := join_perm ha hb
  rcases shaped_iff.1 (perm_shaped ha) with ⟨rfl, rfl⟩ | ⟨rfl, h1, h2⟩
  · rw [covs_lock hj ha, join_lock ha hb]
    have g1 := perm_lock.1 ha; have g2 := perm_lock.1 hb
    by_cases e1 : a.m = 0 <;> by_cases e2 : b.m = 0 <;> simp [e1, e2]
    · rw [cov_self]; simp_all
    · exact sup_l (by simp_all) (by simp_all)
  · rw [covs_pool h1 h2 hj ha, join_pool h1 h2 ha hb]
    simp; omega
theorem join_comm (k u : Int) (a b : Am) : join k u a b = join k u b a := by
  by_cases h : perm k u a = true ∧ perm k u b = true
  · obtain ⟨ha, hb⟩ := h
    rcases shaped_iff.1 (perm_shaped ha) with ⟨rfl, rfl⟩ | ⟨rfl, h1, h2⟩
    · rw [join_lock ha hb, join_lock hb ha, sup_comm]
      by_cases e1 : a.m = 0 <;> by_cases e2 : b.m = 0 <;> simp [e1, e2]
    · rw [join_pool h1 h2 ha hb, join_pool h1 h2 hb ha, Int.max_comm]
  · rw [join_bad h, join_bad (fun ⟨h1, h2⟩ => h ⟨h2, h1⟩)]
theorem join_r {k u : Int} {a b : Am} (ha : perm k u a = true) (hb : perm k u b = true) : covs k u (join k u a b) b = true := by
  rw [join_comm]; exact join_l hb ha
theorem join_least {k u : Int} {a b c : Am} (h : covs k u c a = true) (h' : covs k u c b = true) : covs k u c (join k u a b) = true := by
  obtain ⟨hc, ha⟩ := covs_pl h
  obtain ⟨_, hb⟩ := covs_pl h'
  have hj := join_perm ha hb
  rcases shaped_iff.1 (perm_shaped ha) with ⟨rfl, rfl⟩ | ⟨rfl, h1, h2⟩
  · rw [covs_lock hc ha] at h; rw [covs_lock hc hb] at h'
    rw [covs_lock hc hj, join_lock ha hb]
    by_cases e1 : a.m = 0 <;> by_cases e2 : b.m = 0 <;> simp_all
    right; exact sup_least h h'
  · rw [covs_pool h1 h2 hc ha] at h; rw [covs_pool h1 h2 hc hb] at h'
    rw [covs_pool h1 h2 hc hj, join_pool h1 h2 ha hb]
    simp at *; omega
theorem join_self {k u : Int} {a : Am} (h : perm k u a = true) : join k u a a = a :=
  covs_anti (join_l h h) (join_least (by rw [covs_self]; exact h) (by rw [covs_self]; exact h))
theorem join_assoc {k u : Int} {a b c : Am} (ha : perm k u a = true) (hb : perm k u b = true) (hc : perm k u c = true) : join k u (join k u a b) c = join k u a (join k u b c) := by
  have hab := join_perm ha hb
  have hbc := join_perm hb hc
  refine covs_anti (join_least ?_ (join_least ?_ ?_)) (join_least (join_least ?_ ?_) ?_)
  · exact covs_trans (join_l hab hc) (join_l ha hb)
  · exact covs_trans (join_l hab hc) (join_r ha hb)
  · exact join_r hab hc
  · exact join_l ha hbc
  · exact covs_trans (join_r ha hbc) (join_l hb hc)
  · exact covs_trans (join_r ha hbc) (join_r hb hc)
/-- the reference's way to the least amount -/
theorem join_ref {k u : Int} {a b : Am} (ha : perm k u a = true) (hb : perm k u b = true) :
    (if covs k u a b = true then a else if covs k u b a = true then b else ⟨sup a.m b.m, 0⟩) = join k u a b := by
  split
  · rename_i h
    exact covs_anti (join_least (by rw [covs_self]; exact ha) h |> fun h2 => h2) (join_l ha hb)
  split
  · rename_i _ h
    exact covs_anti (join_least h (by rw [covs_self]; exact hb)) (join_r ha hb)
  · rename_i h1 h2
    rcases shaped_iff.1 (perm_shaped ha) with ⟨rfl, rfl⟩ | ⟨rfl, g1, g2⟩
    · rw [covs_lock ha hb] at h1; rw [covs_lock hb ha] at h2
      rw [join_lock ha hb]
      simp at h1 h2
      rw [if_neg (by simp [h2]), if_neg (by simp [h1])]
    · rw [covs_pool g1 g2 ha hb] at h1; rw [covs_pool g1 g2 hb ha] at h2
      simp at h1 h2; omega
/-- lists of amounts -/
def pr (a b : Am) : Prop := a.m = 0 ∨ b.m = 0 ∨ cmp a.m b.m = true
instance (a b : Am) : Decidable (pr a b) := by unfold pr; infer_instance
theorem pr_comm {a b : Am} (h : pr a b) : pr b a := by
  rcases h with h | h | h
  · exact .inr (.inl h)
  · exact .inl h
  · exact .inr (.inr (by rw [cmp_comm]; exact h))
def sm (l : List Am) : Int := (l.map Am.u).sum
def Cmpt (k u : Int) (l : List Am) : Prop := shaped k u = true ∧ (∀ a ∈ l, perm k u a = true) ∧ sm l ≤ u ∧ l.Pairwise pr
instance (k u : Int) (l : List Am) : Decidable (Cmpt k u l) := by unfold Cmpt; infer_instance
def compat (k u : Int) (l : List Am) : Bool := decide (Cmpt k u l)
theorem sm_append (a b : List Am) : sm (a ++ b) = sm a + sm b := by simp [sm]
theorem sm_nonneg {k u : Int} : ∀ {l : List Am}, (∀ a ∈ l, perm k u a = true) → 0 ≤ sm l
  | [], _ => by simp [sm]
  | a :: l, h => by
    have h1 := perm_units (h a (by simp))
    have h2 := sm_nonneg (l := l) (fun x hx => h x (by simp [hx]))
    simp [sm] at h2 ⊢; omega
theorem Cmpt.pre {k u : Int} {a b : List Am} (h : Cmpt k u (a ++ b)) : Cmpt k u a := by
  obtain ⟨h1, h2, h3, h4⟩ := h
  refine ⟨h1, fun x hx => h2 x (by simp [hx]), ?_, (List.pairwise_append.1 h4).1⟩
  rw [sm_append] at h3
  have := sm_nonneg (l := b) (fun x hx => h2 x (by simp [hx]))
  omega
theorem Cmpt.snoc {k u : Int} {l : List Am} {a : Am} : Cmpt k u (l ++ [a]) ↔ Cmpt k u l ∧ perm k u a = true ∧ sm l + a.u ≤ u ∧ ∀ b ∈ l, pr b a := by
  constructor
  · intro h
    refine ⟨h.pre, h.2.1 a (by simp), ?_, ?_⟩
    · have := h.2.2.1; rw [sm_append] at this; simpa [sm] using this
    · exact fun b hb => (List.pairwise_append.1 h.2.2.2).2.2 b hb a (by simp)
  · rintro ⟨⟨h1, h2, h3, h4⟩, h5, h6, h7⟩
    refine ⟨h1, fun x hx => ?_, ?_, ?_⟩
    · rcases List.mem_append.1 hx with hx | hx
      · exact h2 x hx
      · simp at hx; subst hx; exact h5
    · rw [sm_append]; simpa [sm] using h6
    · rw [List.pairwise_append]; exact ⟨h4, by simp, fun b hb x hx => by simp at hx; subst hx; exact h7 b hb⟩
theorem sm_perm {a b : List Am} (h : a.Perm b) : sm a = sm b := by
  induction h with
  | nil => rfl
  | cons x _ ih => simp [sm] at ih ⊢; omega
  | swap x y l => simp [sm]; omega
  | trans _ _ h1 h2 => exact h1.trans h2
theorem Cmpt.perm {k u : Int} {a b : List Am} (h : Cmpt k u a) (hp : a.Perm b) : Cmpt k u b :=
  ⟨h.1, fun x hx => h.2.1 x (hp.mem_iff.2 hx), by rw [← sm_perm hp]; exact h.2.2.1, (hp.pairwise_iff (fun h => pr_comm h)).1 h.2.2.2⟩
theorem compat_perm {k u : Int} {a b : List Am} (hp : a.Perm b) : compat k u a = compat k u b := by
  unfold compat
  rw [decide_eq_decide]
  exact ⟨fun h => h.perm hp, fun h => h.perm hp.symm⟩
theorem Cmpt.sub {k u : Int} {a b : List Am} (h : Cmpt k u a) (hs : b.Sublist a) : Cmpt k u b := by
  refine ⟨h.1, fun x hx => h.2.1 x (hs.mem hx), ?_, h.2.2.2.sublist hs⟩
  have h3 := h.2.2.1
  have : sm b ≤ sm a := by
    have hall := h.2.1
    clear h h3
    induction hs with
    | slnil => exact Int.le_refl _
    | cons x _ ih =>
      have := perm_units (hall x (by simp))
      have := ih (fun y hy => hall y (by simp [hy]))
      simp [sm] at this ⊢; omega
    | cons_cons x _ ih =>
      have := ih (fun y hy => hall y (by simp [hy]))
      simp [sm] at this ⊢; omega
  omega
theorem pr_weak {k u : Int} {a b c : Am} (h : covs k u a b = true) (h' : pr a c) : pr b c := by
  obtain ⟨ha, hb⟩ := covs_pl h
  rcases shaped_iff.1 (perm_shaped ha) with ⟨rfl, rfl⟩ | ⟨rfl, h1, h2⟩
  · rw [covs_lock ha hb] at h
    simp at h
    rcases h with h | h
    · exact .inl h
    · rcases h' with h' | h' | h'
      · rw [h', cov_nl vld_zero] at h; cases h
      · exact .inr (.inl h')
      · exact .inr (.inr (cov_weak h h'))
  · exact .inl ((perm_pool h1 h2).1 hb).1
theorem covs_units {k u : Int} {a b : Am} (h : covs k u a b = true) : b.u ≤ a.u := by
  obtain ⟨ha, hb⟩ := covs_pl h
  rcases shaped_iff.1 (perm_shaped ha) with ⟨rfl, rfl⟩ | ⟨rfl, h1, h2⟩
  · have := perm_lock.1 ha; have := perm_lock.1 hb; omega
  · rw [covs_pool h1 h2 ha hb] at h; simpa using h
/-- replacing an amount by one that it covers -/
theorem Cmpt.less {k u : Int} {p q : List Am} {a b : Am} (h : Cmpt k u (p ++ a :: q)) (hc : covs k u a b = true) : Cmpt k u (p ++ b :: q) := by
  have hp : (p ++ a :: q).Perm ((p ++ q) ++ [a]) := by
    refine (List.perm_middle).trans ?_
    exact (List.perm_append_singleton _ _).symm
  have hp' : (p ++ b :: q).Perm ((p ++ q) ++ [b]) := by
    refine (List.perm_middle).trans ?_
    exact (List.perm_append_singleton _ _).symm
  refine Cmpt.perm ?_ hp'.symm
  have h' := Cmpt.snoc.1 (h.perm hp)
  refine Cmpt.snoc.2 ⟨h'.1, (covs_pl hc).2, ?_, fun x hx => pr_comm (pr_weak hc (pr_comm (h'.2.2.2 x hx)))⟩
  have := covs_units hc
  omega
theorem Cmpt.room {k u : Int} {l : List Am} {a b : Am} (h : Cmpt k u (l ++ [a])) (hc : covs k u a b = true) : Cmpt k u (l ++ [b]) := h.less hc
theorem compat_less {k u : Int} {p q : List Am} {a b : Am} (h : compat k u (p ++ a :: q) = true) (hc : covs k u a b = true) : compat k u (p ++ b :: q) = true :=
  decide_eq_true (Cmpt.less (of_decide_eq_true h) hc)
theorem compat_sub {k u : Int} {a b : List Am} (h : compat k u a = true) (hs : b.Sublist a) : compat k u b = true :=
  decide_eq_true (Cmpt.sub (of_decide_eq_true h) hs)
/-- one digit -/
def dg1 (k : Int) : List UInt8 := [UInt8.ofNat (48 + k.toNat)]
/-- how an amount is written -/
def fmtA (a : Am) : List UInt8 := if zer a then [45] else if a.u = 0 then nm a.m else if a.m = 0 ∧ 1 ≤ a.u ∧ a.u ≤ 8 then 42 :: dg1 a.u else []
end CL
