
/- Plain facts: simplified expressions. No program in sight. -/
import Derived.Test.YtmolffigeobnnaaNi
set_option linter.unusedVariables false
namespace CL
mutual
def eqE : Ex → Ex → Bool
  | .mk k a l, .mk k' a' l' => decide (k = k') && decide (a = a') && eqL l l'
def eqL : List Ex → List Ex → Bool
  | [], [] => true
  | e :: l, e' :: l' => eqE e e' && eqL l l'
  | [], _ :: _ => false
  | _ :: _, [] => false
end
theorem eqE_iff (a : Ex) : ∀ b, eqE a b = true ↔ a = b := by
  induction a using Ex.ind with
  | h k a l ih =>
    have hL : ∀ ks : List Ex, (∀ e ∈ ks, ∀ b, eqE e b = true ↔ e = b) → ∀ ls, eqL ks ls = true ↔ ks = ls := by
      intro ks
      induction ks with
      | nil => intro _ ls; cases ls <;> simp [eqL]
      | cons e ks ihk =>
        intro hk ls
        cases ls with
        | nil => simp [eqL]
        | cons e' ls => simp only [eqL, Bool.and_eq_true, hk e (by simp) e', ihk (fun x hx => hk x (by simp [hx])) ls, List.cons.injEq]
    intro b
    cases b with
    | mk k' a' l' => simp only [eqE, Bool.and_eq_true, decide_eq_true_eq, hL l ih l', Ex.mk.injEq, and_assoc]
instance : DecidableEq Ex := fun a b => decidable_of_iff _ (eqE_iff a b)
theorem eqE_eq (a b : Ex) : eqE a b = decide (a = b) := by rw [Bool.eq_iff_iff, eqE_iff]; simp
/-- added if it is not there yet -/
def addU (r : List Ex) (x : Ex) : List Ex := if x ∈ r then r else r ++ [x]
def uniq (l : List Ex) : List Ex := l.foldl addU []
/-- groups of a kind, opened -/
def opn (p : Ex → Bool) (l : List Ex) : List Ex := l.flatMap fun x => if x.kids = [] ∨ p x = false then [x] else x.kids
def mrg (p : Ex → Bool) (l : List Ex) : List Ex := uniq (opn p l)
def pAny (x : Ex) : Bool := decide (x.k = 1)
def pAll (x : Ex) : Bool := decide (x.k = x.kids.length)
def wrapE (k : Int) : List Ex → Ex
  | [x] => x
  | l => .mk k noAt l
def fin (k : Int) (l : List Ex) : Ex := if l.length = 1 then wrapE k l else if k = 1 then wrapE k (mrg pAny l) else if k = l.length then wrapE (mrg pAll l).length (mrg pAll l) else wrapE k l
mutual
def smp : Ex → Ex
  | .mk k a kids => if kids = [] then .mk 0 a [] else fin k (smpL kids)
def smpL : List Ex → List Ex
  | [] => []
  | e :: l => smp e :: smpL l
end
theorem smpL_map : ∀ l : List Ex, smpL l = l.map smp
  | [] => rfl
  | e :: l => by simp [smpL, smpL_map l]
theorem smpL_len (l : List Ex) : (smpL l).length = l.length := by simp [smpL_map]
def smpE (e : Ex) : Ex := if valid e then smp e else noEx
/-- atoms and groups -/
inductive Wf : Ex → Prop
  | leaf (a : At) (h : vatom a = true) : Wf (.mk 0 a [])
  | node (k : Int) (kids : List Ex) (h0 : kids ≠ []) (h1 : 1 ≤ k) (h2 : k ≤ kids.length) (h : ∀ e ∈ kids, Wf e) : Wf (.mk k noAt kids)
theorem Wf.of_radd (e : Ex) : ∀ l x, radd e l = some x → Wf e := by
  induction e using Ex.ind with
  | h k a kids ih =>
    intro l x h
    have hL : ∀ ks : List Ex, (∀ e ∈ ks, ∀ l x, radd e l = some x → Wf e) → ∀ l x, raddL ks l = some x → ∀ e ∈ ks, Wf e := by
      intro ks
      induction ks with
      | nil => intro _ _ _ _; simp
      | cons e ks ihk =>
        intro hk l x h y hy
        simp only [raddL] at h
        cases hr : radd e l with
        | none => rw [hr] at h; cases h
        | some z =>
          rw [hr] at h
          rcases List.mem_cons.1 hy with rfl | hy
          · exact hk y (by simp) l z hr
          · exact ihk (fun x hx => hk x (by simp [hx])) z x h y hy
    rcases radd_node h with ⟨rfl, rfl, hv⟩ | ⟨h0, h1, h2, rfl, hx⟩
    · exact .leaf a hv
    · exact .node k kids h0 h1 h2 (hL kids ih l x hx)
theorem Wf.radd {e : Ex} (h : Wf e) : ∀ l, CL.radd e l = some (coll e l) := by
  induction h with
  | leaf a hv => intro l; simp [CL.radd, coll, hv]
  | node k kids h0 h1 h2 h ih =>
    intro l
    have hL : ∀ ks : List Ex, (∀ e ∈ ks, ∀ l, CL.radd e l = some (coll e l)) → ∀ l, raddL ks l = some (collL ks l) := by
      intro ks
      induction ks with
      | nil => intro _ l; simp [raddL, collL]
      | cons e ks ihk =>
        intro hk l
        simp only [raddL, collL, hk e (by simp) l]
        exact ihk (fun x hx => hk x (by simp [hx])) _
    simp only [CL.radd, coll]
    rw [if_neg h0, if_neg h0, if_neg (by simp only [not_or, Classical.not_not]; exact ⟨by omega, by omega, trivial⟩)]
    exact hL kids ih l
/-- the atoms in an expression -/
inductive InA (a : At) : Ex → Prop
  | leaf (k : Int) : InA a (.mk k a [])
  | node (k : Int) (b : At) (kids : List Ex) (e : Ex) (h : e ∈ kids) (h' : InA a e) : InA a (.mk k b kids)
theorem coll_mem (e : Ex) : ∀ (l : List At) (a : At), a ∈ coll e l ↔ a ∈ l ∨ InA a e := by
  induction e using Ex.ind with
  | h k b kids ih =>
    have hL : ∀ ks : List Ex, (∀ e ∈ ks, ∀ (l : List At) (a : At), a ∈ coll e l ↔ a ∈ l ∨ InA a e) → ∀ (l : List At) (a : At), a ∈ collL ks l ↔ a ∈ l ∨ ∃ e ∈ ks, InA a e := by
      intro ks
      induction ks with
      | nil => intro _ l a; simp [collL]
      | cons e ks ihk =>
        intro hk l a
        simp only [collL, ihk (fun x hx => hk x (by simp [hx])), hk e (by simp), List.mem_cons, exists_eq_or_imp, or_assoc]
    intro l a
    simp only [coll]
    split
    · rename_i hk
      subst hk
      have hi : InA a (.mk k b []) ↔ a = b := by
        constructor
        · intro h
          cases h with
          | leaf k => rfl
          | node _ _ _ e h h' => simp at h
        · rintro rfl; exact .leaf k
      rw [hi]
      split
      · rename_i hm
        constructor
        · exact .inl
        · rintro (h | rfl)
          · exact h
          · exact hm
      · simp
    · rename_i hk
      have hi : InA a (.mk k b kids) ↔ ∃ e ∈ kids, InA a e := by
        constructor
        · intro h
          cases h with
          | leaf k => exact absurd rfl hk
          | node _ _ _ e h h' => exact ⟨e, h, h'⟩
        · rintro ⟨e, h, h'⟩; exact .node _ _ _ e h h'
      rw [hi]; exact hL kids ih l a
theorem coll_nodup (e : Ex) : ∀ l : List At, l.Nodup → (coll e l).Nodup := by
  induction e using Ex.ind with
  | h k b kids ih =>
    have hL : ∀ ks : List Ex, (∀ e ∈ ks, ∀ l : List At, l.Nodup → (coll e l).Nodup) → ∀ l : List At, l.Nodup → (collL ks l).Nodup := by
      intro ks
      induction ks with
      | nil => intro _ l h; simpa [collL] using h
      | cons e ks ihk => intro hk l h; simp only [collL]; exact ihk (fun x hx => hk x (by simp [hx])) _ (hk e (by simp) l h)
    intro l h
    simp only [coll]
    split
    · split
      · exact h
      · rename_i hm
        exact List.nodup_append.2 ⟨h, by simp, fun a ha c hc => by simp at hc; subst hc; exact fun e => hm (e ▸ ha)⟩
    · exact hL kids ih l h
/-- a well-formed expression of few nodes whose atoms are among those of a valid one is valid -/
theorem Wf.valid {e f : Ex} (h : Wf f) (hd : depth f ≤ depth e) (hs : size f ≤ size e) (hv : CL.valid e = true) (ha : ∀ a, InA a f → InA a e) : CL.valid f = true := by
  obtain ⟨h1, h2, h3⟩ := valid_coll hv
  unfold CL.valid
  rw [h.radd []]
  simp only [small, decide_eq_true_eq, Bool.and_eq_true] at h3 ⊢
  have hsub : ∀ a ∈ coll f [], a ∈ coll e [] := fun a haa => by
    rw [coll_mem] at haa ⊢
    exact haa.imp (fun h => h) (ha a)
  have hn := coll_nodup f [] (by simp)
  have hlen : (coll f []).length ≤ (coll e []).length := by
    have : ∀ (x l : List At), x.Nodup → (∀ a ∈ x, a ∈ l) → x.length ≤ l.length := by
      intro x
      induction x with
      | nil => intro l _ _; simp
      | cons a x ih =>
        intro l hn hs
        rw [List.nodup_cons] at hn
        have ha := hs a (by simp)
        have h1 := ih (l.erase a) hn.2 (fun b hb => (List.mem_erase_of_ne (fun e : b = a => hn.1 (by rw [← e]; exact hb))).2 (hs b (by simp [hb])))
        rw [List.length_erase_of_mem ha] at h1
        have := List.length_pos_of_mem ha
        simp only [List.length_cons]; omega
    exact this _ _ hn hsub
  have hinj : ∀ a ∈ coll e [], ∀ b ∈ coll e [], a ≠ b → a.n ≠ b.n := by
    have hp := h2.2
    unfold Dist at hp
    intro a ha b hb hab
    obtain ⟨i, hi, rfl⟩ := List.mem_iff_getElem.1 ha
    obtain ⟨j, hj, rfl⟩ := List.mem_iff_getElem.1 hb
    rw [List.pairwise_iff_getElem] at hp
    rcases Nat.lt_trichotomy i j with hlt | heq | hgt
    · exact hp i j hi hj hlt
    · subst heq; exact absurd rfl hab
    · exact fun e => hp j i hj hi hgt e.symm
  refine ⟨by omega, by have := h2.1; omega, ?_⟩
  unfold Dist
  exact List.Pairwise.imp_of_mem (fun {a b} ha hb hab => hinj a (hsub a ha) b (hsub b hb) hab) hn
theorem mem_addU {r : List Ex} {x y : Ex} : y ∈ addU r x ↔ y ∈ r ∨ y = x := by
  unfold addU
  split
  · rename_i h
    constructor
    · exact .inl
    · rintro (h1 | rfl)
      · exact h1
      · exact h
  · simp
theorem uniq_go : ∀ (l r : List Ex), r.Nodup → (l.foldl addU r).Nodup ∧ (∀ x, x ∈ l.foldl addU r ↔ x ∈ r ∨ x ∈ l) ∧ sizeL (l.foldl addU r) ≤ sizeL r + sizeL l ∧ ((r ++ l).Nodup → l.foldl addU r = r ++ l)
  | [], r, h => ⟨h, by simp, by simp [sizeL], by simp⟩
  | x :: l, r, h => by
    have hn : (addU r x).Nodup := by
      unfold addU
      split
      · exact h
      · rename_i hm
        exact List.nodup_append.2 ⟨h, by simp, fun a ha c hc => by simp at hc; subst hc; exact fun e => hm (e ▸ ha)⟩
    obtain ⟨h1, h2, h3, h4⟩ := uniq_go l (addU r x) hn
    have hsz : ∀ a b : List Ex, sizeL (a ++ b) = sizeL a + sizeL b := by
      intro a b
      induction a with
      | nil => simp [sizeL]
      | cons e a ih => simp only [List.cons_append, sizeL, ih]; omega
    refine ⟨h1, fun y => ?_, ?_, fun hs => ?_⟩
    · simp only [List.foldl_cons, h2, mem_addU, List.mem_cons, or_assoc]
    · have : sizeL (addU r x) ≤ sizeL r + size x := by
        unfold addU
        split
        · omega
        · rw [hsz]; simp [sizeL]
      simp only [List.foldl_cons, sizeL]; omega
    · have hx : x ∉ r := fun hm => by
        rw [List.nodup_append] at hs
        exact hs.2.2 x hm x (by simp) rfl
      have e : addU r x = r ++ [x] := by unfold addU; rw [if_neg hx]
      simp only [List.foldl_cons]
      rw [h4 (by rw [e]; simpa using hs), e]; simp
theorem uniq_nodup (l : List Ex) : (uniq l).Nodup := (uniq_go l [] (by simp)).1
theorem mem_uniq {l : List Ex} {x : Ex} : x ∈ uniq l ↔ x ∈ l := by
  have := (uniq_go l [] (by simp)).2.1 x
  simpa [uniq] using this
theorem uniq_size (l : List Ex) : sizeL (uniq l) ≤ sizeL l := by
  have := (uniq_go l [] (by simp)).2.2.1
  simpa [uniq, sizeL] using this
theorem uniq_self {l : List Ex} (h : l.Nodup) : uniq l = l := by
  have := (uniq_go l [] (by simp)).2.2.2 (by simpa using h)
  simpa [uniq] using this
theorem sizeL_app (a b : List Ex) : sizeL (a ++ b) = sizeL a + sizeL b := by
  induction a with
  | nil => simp [sizeL]
  | cons e a ih => simp only [List.cons_append, sizeL, ih]; omega
theorem depthL_le {l : List Ex} {d : Nat} : depthL l ≤ d ↔ ∀ e ∈ l, depth e ≤ d := by
  induction l with
  | nil => simp [depthL]
  | cons e l ih => simp only [depthL, List.mem_cons, forall_eq_or_imp, ← ih]; omega
theorem mem_opn {p : Ex → Bool} {l : List Ex} {y : Ex} : y ∈ opn p l ↔ ∃ x ∈ l, ((x.kids = [] ∨ p x = false) ∧ y = x) ∨ (x.kids ≠ [] ∧ p x = true ∧ y ∈ x.kids) := by
  simp only [opn, List.mem_flatMap]
  constructor
  · rintro ⟨x, hx, hy⟩
    refine ⟨x, hx, ?_⟩
    split at hy
    · rename_i h; simp at hy; exact .inl ⟨h, hy⟩
    · rename_i h
      simp only [not_or, Bool.not_eq_false] at h
      exact .inr ⟨h.1, h.2, hy⟩
  · rintro ⟨x, hx, ⟨h, rfl⟩ | ⟨h1, h2, h3⟩⟩
    · exact ⟨y, hx, by rw [if_pos h]; simp⟩
    · exact ⟨x, hx, by rw [if_neg (by simp only [not_or, Bool.not_eq_false]; exact ⟨h1, h2⟩)]; exact h3⟩
theorem opn_size (p : Ex → Bool) : ∀ l : List Ex, sizeL (opn p l) ≤ sizeL l
  | [] => by simp [opn]
  | e :: l => by
    have ih := opn_size p l
    simp only [opn, List.flatMap_cons, sizeL] at ih ⊢
    rw [sizeL_app]
    have : sizeL (if e.kids = [] ∨ p e = false then [e] else e.kids) ≤ size e := by
      split
      · simp [sizeL]
      · cases e; simp [Ex.kids, size]
    omega
theorem kids_depth {e x : Ex} (h : x ∈ e.kids) : depth x < depth e := by
  cases e with
  | mk k a l =>
    have := (depthL_le (l := l) (d := depthL l)).1 (Nat.le_refl _) x h
    simp only [depth]; omega
theorem mrg_facts (p : Ex → Bool) (l : List Ex) : (mrg p l).Nodup ∧ sizeL (mrg p l) ≤ sizeL l ∧ depthL (mrg p l) ≤ depthL l ∧ ∀ y, y ∈ mrg p l ↔ y ∈ opn p l := by
  refine ⟨uniq_nodup _, Nat.le_trans (uniq_size _) (opn_size p l), ?_, fun y => mem_uniq⟩
  rw [depthL_le]
  intro y hy
  rw [mrg, mem_uniq, mem_opn] at hy
  obtain ⟨x, hx, ⟨_, rfl⟩ | ⟨_, _, h⟩⟩ := hy
  · exact depthL_le.1 (Nat.le_refl _) y hx
  · have := kids_depth h
    have := depthL_le.1 (Nat.le_refl _) x hx
    omega
theorem mrg_ne {p : Ex → Bool} {l : List Ex} (h : l ≠ []) : mrg p l ≠ [] := by
  cases l with
  | nil => exact absurd rfl h
  | cons e l =>
    intro hn
    have : ∃ y, y ∈ opn p (e :: l) := by
      by_cases hp : e.kids = [] ∨ p e = false
      · exact ⟨e, mem_opn.2 ⟨e, by simp, .inl ⟨hp, rfl⟩⟩⟩
      · simp only [not_or, Bool.not_eq_false] at hp
        obtain ⟨y, hy⟩ := List.exists_mem_of_ne_nil _ hp.1
        exact ⟨y, mem_opn.2 ⟨e, by simp, .inr ⟨hp.1, hp.2, hy⟩⟩⟩
    obtain ⟨y, hy⟩ := this
    have := ((mrg_facts p (e :: l)).2.2.2 y).2 hy
    rw [hn] at this; simp at this
theorem wrapE_one (k : Int) (x : Ex) : wrapE k [x] = x := rfl
theorem wrapE_ne {k : Int} {l : List Ex} (h : l.length ≠ 1) : wrapE k l = .mk k noAt l := by
  match l, h with
  | [], _ => rfl
  | [x], h => exact absurd rfl h
  | x :: y :: l, _ => rfl
/-- what is the same of a group and of its simplified form -/
theorem wrapE_facts {k : Int} {l : List Ex} (h0 : l ≠ []) (h1 : 1 ≤ k) (h2 : k ≤ l.length) (hw : ∀ e ∈ l, Wf e) : Wf (wrapE k l) ∧ size (wrapE k l) ≤ 1 + sizeL l ∧ depth (wrapE k l) ≤ depthL l + 1 ∧ ∀ a, InA a (wrapE k l) → ∃ e ∈ l, InA a e := by
  by_cases hl : l.length = 1
  · match l, hl with
    | [x], _ =>
      rw [wrapE_one]
      refine ⟨hw x (by simp), by simp [sizeL], by simp [depthL], fun a h => ⟨x, by simp, h⟩⟩
  · rw [wrapE_ne hl]
    refine ⟨.node k l h0 h1 h2 hw, by simp [size], by simp [depth], fun a h => ?_⟩
    cases h with
    | leaf _ => exact absurd rfl h0
    | node _ _ _ e h h' => exact ⟨e, h, h'⟩
theorem opn_wf {p : Ex → Bool} {l : List Ex} (hw : ∀ e ∈ l, Wf e) : ∀ e ∈ opn p l, Wf e := by
  intro y hy
  obtain ⟨x, hx, ⟨_, rfl⟩ | ⟨h1, _, h⟩⟩ := mem_opn.1 hy
  · exact hw y hx
  · have := hw x hx
    cases this with
    | leaf a _ => exact absurd rfl h1
    | node k kids h0 h1 h2 hk => exact hk y h
theorem opn_in {p : Ex → Bool} {l : List Ex} {a : At} (h : ∃ e ∈ opn p l, InA a e) : ∃ e ∈ l, InA a e := by
  obtain ⟨y, hy, ha⟩ := h
  obtain ⟨x, hx, ⟨_, rfl⟩ | ⟨h1, _, h⟩⟩ := mem_opn.1 hy
  · exact ⟨y, hx, ha⟩
  · refine ⟨x, hx, ?_⟩
    cases x with
    | mk k b kids => exact .node _ _ _ y h ha
theorem len_pos {l : List Ex} (h : l ≠ []) : 1 ≤ l.length := List.length_pos_iff.2 h
theorem fin_facts {k : Int} {l : List Ex} (h0 : l ≠ []) (h1 : 1 ≤ k) (h2 : k ≤ l.length) (hw : ∀ e ∈ l, Wf e) : Wf (fin k l) ∧ size (fin k l) ≤ 1 + sizeL l ∧ depth (fin k l) ≤ depthL l + 1 ∧ ∀ a, InA a (fin k l) → ∃ e ∈ l, InA a e := by
  unfold fin
  split
  · exact wrapE_facts h0 h1 h2 hw
  · have hm := fun p => mrg_facts p l
    have hn := fun p => mrg_ne (p := p) h0
    have hmw : ∀ p, ∀ e ∈ mrg p l, Wf e := fun p e he => opn_wf hw e (((hm p).2.2.2 e).1 he)
    have hmi : ∀ p a, (∃ e ∈ mrg p l, InA a e) → ∃ e ∈ l, InA a e := fun p a ⟨e, he, ha⟩ => opn_in ⟨e, ((hm p).2.2.2 e).1 he, ha⟩
    split
    · rename_i hk
      subst hk
      obtain ⟨a1, a2, a3, a4⟩ := wrapE_facts (hn pAny) (Int.le_refl 1) (by have := len_pos (hn pAny); omega) (hmw pAny)
      have := hm pAny
      exact ⟨a1, by omega, by omega, fun a h => hmi pAny a (a4 a h)⟩
    · split
      · obtain ⟨a1, a2, a3, a4⟩ := wrapE_facts (k := (mrg pAll l).length) (hn pAll) (by have := len_pos (hn pAll); omega) (Int.le_refl _) (hmw pAll)
        have := hm pAll
        exact ⟨a1, by omega, by omega, fun a h => hmi pAll a (a4 a h)⟩
      · exact wrapE_facts h0 h1 h2 hw
theorem smp_facts {e : Ex} (h : Wf e) : Wf (smp e) ∧ size (smp e) ≤ size e ∧ depth (smp e) ≤ depth e ∧ ∀ a, InA a (smp e) → InA a e := by
  induction h with
  | leaf a hv => simp only [smp, if_true]; exact ⟨.leaf a hv, by simp, by simp, fun _ h => h⟩
  | node k kids h0 h1 h2 h ih =>
    simp only [smp]
    rw [if_neg h0]
    have hL : ∀ ks : List Ex, (∀ e ∈ ks, size (smp e) ≤ size e ∧ depth (smp e) ≤ depth e) → sizeL (smpL ks) ≤ sizeL ks ∧ depthL (smpL ks) ≤ depthL ks := by
      intro ks
      induction ks with
      | nil => intro _; simp [smpL]
      | cons e ks ihk =>
        intro hk
        have a := hk e (by simp)
        have b := ihk (fun x hx => hk x (by simp [hx]))
        simp only [smpL, sizeL, depthL]; omega
    have hk := hL kids fun e he => ⟨(ih e he).2.1, (ih e he).2.2.1⟩
    obtain ⟨a1, a2, a3, a4⟩ := fin_facts (k := k) (l := smpL kids) (fun hn => h0 (by have := congrArg List.length hn; rw [smpL_len] at this; exact List.eq_nil_of_length_eq_zero this)) h1 (by rw [smpL_len]; exact h2) (fun e he => by
      rw [smpL_map, List.mem_map] at he
      obtain ⟨x, hx, rfl⟩ := he
      exact (ih x hx).1)
    refine ⟨a1, by simp only [size]; omega, by simp only [depth]; omega, fun a ha => ?_⟩
    obtain ⟨e, he, ha⟩ := a4 a ha
    rw [smpL_map, List.mem_map] at he
    obtain ⟨x, hx, rfl⟩ := he
    exact .node _ _ _ x hx ((ih x hx).2.2.2 a ha)
theorem smp_valid {e : Ex} (hv : valid e = true) : valid (smp e) = true := by
  have hw := Wf.of_radd e [] _ (valid_coll hv).1
  obtain ⟨a1, a2, a3, a4⟩ := smp_facts hw
  exact a1.valid a3 a2 hv a4
/-- simplified as far as it goes -/
inductive Nf : Ex → Prop
  | leaf (a : At) : Nf (.mk 0 a [])
  | node (k : Int) (kids : List Ex) (h0 : 2 ≤ kids.length) (h : ∀ e ∈ kids, Nf e) (h1 : k = 1 → kids.Nodup ∧ ∀ e ∈ kids, e.kids = [] ∨ pAny e = false) (h2 : k = kids.length → kids.Nodup ∧ ∀ e ∈ kids, e.kids = [] ∨ pAll e = false) : Nf (.mk k noAt kids)
theorem opn_self {p : Ex → Bool} : ∀ {l : List Ex}, (∀ e ∈ l, e.kids = [] ∨ p e = false) → opn p l = l
  | [], _ => rfl
  | e :: l, h => by
    have := opn_self (p := p) (l := l) (fun x hx => h x (by simp [hx]))
    simp only [opn, List.flatMap_cons] at this ⊢
    rw [this, if_pos (h e (by simp))]; rfl
theorem Nf.smp {e : Ex} (h : Nf e) : CL.smp e = e := by
  induction h with
  | leaf a => simp [CL.smp]
  | node k kids h0 h h1 h2 ih =>
    have hne : kids ≠ [] := by rintro rfl; simp at h0
    have hl : smpL kids = kids := by
      rw [smpL_map]
      conv => rhs; rw [← List.map_id kids]
      exact List.map_congr_left fun e he => ih e he
    simp only [CL.smp]
    rw [if_neg hne, hl]
    unfold fin
    rw [if_neg (by omega)]
    split
    · rename_i hk
      obtain ⟨a, b⟩ := h1 hk
      rw [mrg, opn_self b, uniq_self a, wrapE_ne (by omega)]
    · split
      · rename_i hk
        obtain ⟨a, b⟩ := h2 hk
        rw [mrg, opn_self b, uniq_self a, wrapE_ne (by omega), hk]
      · rw [wrapE_ne (by omega)]
theorem two_of {l : List Ex} (h0 : l ≠ []) (h1 : l.length ≠ 1) : 2 ≤ l.length := by have := len_pos h0; omega
theorem smp_nf {e : Ex} (h : Wf e) : Nf (smp e) := by
  induction h with
  | leaf a hv => simp only [smp, if_true]; exact .leaf a
  | node k kids h0 h1 h2 h ih =>
    simp only [smp]
    rw [if_neg h0]
    have hnf : ∀ e ∈ smpL kids, Nf e := fun e he => by
      rw [smpL_map, List.mem_map] at he
      obtain ⟨x, hx, rfl⟩ := he
      exact ih x hx
    have h0' : smpL kids ≠ [] := fun hn => h0 (by have := congrArg List.length hn; rw [smpL_len] at this; exact List.eq_nil_of_length_eq_zero this)
    generalize smpL kids = l at *
    unfold fin
    have hone : ∀ k l, l ≠ [] → (∀ e ∈ l, Nf e) → (2 ≤ l.length → Nf (.mk k noAt l)) → Nf (wrapE k l) := by
      intro k l h0 hl hn
      by_cases h1 : l.length = 1
      · match l, h1 with
        | [x], _ => exact hl x (by simp)
      · rw [wrapE_ne h1]; exact hn (two_of h0 h1)
    have hm : ∀ p, (∀ e, Nf e → e.kids ≠ [] → p e = true → ∀ x ∈ e.kids, Nf x ∧ (x.kids = [] ∨ p x = false)) → ∀ y ∈ mrg p l, Nf y ∧ (y.kids = [] ∨ p y = false) := by
      intro p hp y hy
      rw [(mrg_facts p l).2.2.2, mem_opn] at hy
      obtain ⟨x, hx, ⟨h, rfl⟩ | ⟨h1, h2, h3⟩⟩ := hy
      · exact ⟨hnf y hx, h⟩
      · exact hp x (hnf x hx) h1 h2 y h3
    have hany := hm pAny (fun e he hk hp x hx => by
      cases he with
      | leaf a => exact absurd rfl hk
      | node k kids a b c d => exact ⟨b x hx, (c (of_decide_eq_true hp)).2 x hx⟩)
    have hall := hm pAll (fun e he hk hp x hx => by
      cases he with
      | leaf a => exact absurd rfl hk
      | node k kids a b c d => exact ⟨b x hx, (d (of_decide_eq_true hp)).2 x hx⟩)
    split
    · rename_i hl
      refine hone k l h0' hnf (fun h => by omega)
    · rename_i hl1
      split
      · rename_i hk
        subst hk
        exact hone 1 _ (mrg_ne h0') (fun e he => (hany e he).1) (fun h2 => .node 1 _ h2 (fun e he => (hany e he).1) (fun _ => ⟨(mrg_facts pAny l).1, fun e he => (hany e he).2⟩) (fun e => by omega))
      · rename_i hk1
        split
        · exact hone _ _ (mrg_ne h0') (fun e he => (hall e he).1) (fun h2 => .node _ _ h2 (fun e he => (hall e he).1) (fun e => by omega) (fun _ => ⟨(mrg_facts pAll l).1, fun e he => (hall e he).2⟩))
        · rename_i hk2
          exact hone k l h0' hnf (fun h2 => .node k l h2 hnf (fun e => absurd e hk1) (fun e => absurd e hk2))
theorem smp_smp {e : Ex} (h : Wf e) : smp (smp e) = smp e := (smp_nf h).smp
end CL
namespace Go.Proofs.Ytmolffigeobnnaa
theorem cnt_any (h : CL.At → Bool) : ∀ l : List CL.Ex, 1 ≤ cnt h l ↔ ∃ e ∈ l, ev h e = true
  | [] => by simp [cnt]
  | e :: l => by
    have := cnt_any h l
    simp only [cnt, List.mem_cons, exists_eq_or_imp, ← this]
    cases ev h e <;> simp <;> omega
theorem cnt_all (h : CL.At → Bool) : ∀ l : List CL.Ex, l.length ≤ cnt h l ↔ ∀ e ∈ l, ev h e = true
  | [] => by simp [cnt]
  | e :: l => by
    have := cnt_all h l
    have hle := cnt_le h l
    simp only [cnt, List.mem_cons, forall_eq_or_imp, ← this, List.length_cons]
    cases ev h e <;> simp <;> omega
theorem wrap_ev (h : CL.At → Bool) {k : Int} {l : List CL.Ex} (h0 : l ≠ []) (hk : 1 ≤ k) (hl : k ≤ l.length) : ev h (CL.wrapE k l) = decide (k ≤ (cnt h l : Nat)) := by
  by_cases h1 : l.length = 1
  · match l, h1 with
    | [x], _ =>
      have : k = 1 := by simp at hl; omega
      subst this
      rw [CL.wrapE_one]
      rw [Bool.eq_iff_iff, decide_eq_true_eq]
      have := cnt_any h [x]
      simp only [List.mem_singleton, exists_eq_left] at this
      rw [← this]; omega
  · rw [CL.wrapE_ne h1]
    simp only [ev]
    rw [if_neg h0]
theorem fin_ev (h : CL.At → Bool) {k : Int} {l : List CL.Ex} (h0 : l ≠ []) (hk : 1 ≤ k) (hl : k ≤ l.length) (hw : ∀ e ∈ l, CL.Wf e) : ev h (CL.fin k l) = decide (k ≤ (cnt h l : Nat)) := by
  unfold CL.fin
  split
  · exact wrap_ev h h0 hk hl
  · split
    · rename_i hk1
      subst hk1
      rw [wrap_ev h (CL.mrg_ne h0) (Int.le_refl 1) (by have := CL.len_pos (CL.mrg_ne (p := CL.pAny) h0); omega), Bool.eq_iff_iff]
      simp only [decide_eq_true_eq]
      have e1 : (1 : Int) ≤ (cnt h (CL.mrg CL.pAny l) : Nat) ↔ 1 ≤ cnt h (CL.mrg CL.pAny l) := by omega
      have e2 : (1 : Int) ≤ (cnt h l : Nat) ↔ 1 ≤ cnt h l := by omega
      rw [e1, e2, cnt_any, cnt_any]
      constructor
      · rintro ⟨y, hy, hv⟩
        rw [(CL.mrg_facts CL.pAny l).2.2.2, CL.mem_opn] at hy
        obtain ⟨x, hx, ⟨_, rfl⟩ | ⟨h1, h2, h3⟩⟩ := hy
        · exact ⟨y, hx, hv⟩
        · refine ⟨x, hx, ?_⟩
          cases x with
          | mk k a kids =>
            have h2 : k = 1 := of_decide_eq_true h2
            subst h2
            simp only [ev]
            rw [if_neg (show ¬ kids = [] from h1)]
            have := (cnt_any h kids).2 ⟨y, h3, hv⟩
            simp only [decide_eq_true_eq]; omega
      · rintro ⟨x, hx, hv⟩
        by_cases hp : x.kids = [] ∨ CL.pAny x = false
        · exact ⟨x, ((CL.mrg_facts CL.pAny l).2.2.2 x).2 (CL.mem_opn.2 ⟨x, hx, .inl ⟨hp, rfl⟩⟩), hv⟩
        · simp only [not_or, Bool.not_eq_false] at hp
          cases x with
          | mk k a kids =>
            have h2 := hp.2
            have h2 : k = 1 := of_decide_eq_true h2
            subst h2
            simp only [ev] at hv
            rw [if_neg (show ¬ kids = [] from hp.1)] at hv
            simp only [decide_eq_true_eq] at hv
            obtain ⟨y, hy, hv⟩ := (cnt_any h kids).1 (by omega)
            exact ⟨y, ((CL.mrg_facts CL.pAny l).2.2.2 y).2 (CL.mem_opn.2 ⟨_, hx, .inr ⟨hp.1, hp.2, hy⟩⟩), hv⟩
    · split
      · rename_i hk2
        rw [wrap_ev h (CL.mrg_ne h0) (by have := CL.len_pos (CL.mrg_ne (p := CL.pAll) h0); omega) (Int.le_refl _), Bool.eq_iff_iff]
        simp only [decide_eq_true_eq]
        have e1 : ((CL.mrg CL.pAll l).length : Int) ≤ (cnt h (CL.mrg CL.pAll l) : Nat) ↔ (CL.mrg CL.pAll l).length ≤ cnt h (CL.mrg CL.pAll l) := by omega
        have e2 : k ≤ (cnt h l : Nat) ↔ l.length ≤ cnt h l := by omega
        rw [e1, e2, cnt_all, cnt_all]
        constructor
        · intro H x hx
          by_cases hp : x.kids = [] ∨ CL.pAll x = false
          · exact H x (((CL.mrg_facts CL.pAll l).2.2.2 x).2 (CL.mem_opn.2 ⟨x, hx, .inl ⟨hp, rfl⟩⟩))
          · simp only [not_or, Bool.not_eq_false] at hp
            cases x with
            | mk k a kids =>
              have h2 : k = kids.length := of_decide_eq_true hp.2
              simp only [ev]
              rw [if_neg (show ¬ kids = [] from hp.1)]
              have := (cnt_all h kids).2 fun y hy => H y (((CL.mrg_facts CL.pAll l).2.2.2 y).2 (CL.mem_opn.2 ⟨_, hx, .inr ⟨hp.1, hp.2, hy⟩⟩))
              simp only [decide_eq_true_eq]; omega
        · intro H y hy
          rw [(CL.mrg_facts CL.pAll l).2.2.2, CL.mem_opn] at hy
          obtain ⟨x, hx, ⟨_, rfl⟩ | ⟨h1, h2, h3⟩⟩ := hy
          · exact H y hx
          · have hv := H x hx
            cases x with
            | mk k a kids =>
              have h2 : k = kids.length := of_decide_eq_true h2
              simp only [ev] at hv
              rw [if_neg (show ¬ kids = [] from h1)] at hv
              simp only [decide_eq_true_eq] at hv
              exact (cnt_all h kids).1 (by omega) y h3
      · exact wrap_ev h h0 hk hl
theorem smp_ev (h : CL.At → Bool) {e : CL.Ex} (hw : CL.Wf e) : ev h (CL.smp e) = ev h e := by
  induction hw with
  | leaf a hv => simp [CL.smp]
  | node k kids h0 h1 h2 hk ih =>
    have hc : ∀ ks : List CL.Ex, (∀ e ∈ ks, ev h (CL.smp e) = ev h e) → cnt h (CL.smpL ks) = cnt h ks := by
      intro ks
      induction ks with
      | nil => intro _; simp [CL.smpL, cnt]
      | cons e ks ihk => intro hh; simp only [CL.smpL, cnt, hh e (by simp), ihk (fun x hx => hh x (by simp [hx]))]
    simp only [CL.smp, ev]
    rw [if_neg h0, if_neg h0, fin_ev h (fun hn => h0 (by have := congrArg List.length hn; rw [CL.smpL_len] at this; exact List.eq_nil_of_length_eq_zero this)) h1 (by rw [CL.smpL_len]; exact h2) (fun e he => by
      rw [CL.smpL_map, List.mem_map] at he
      obtain ⟨x, hx, rfl⟩ := he
      exact (CL.smp_facts (hk x hx)).1), hc kids ih]
/-- what the law NormalSimpler says -/
theorem simpler {e : CL.Ex} (hv : CL.valid e = true) : CL.valid (CL.smp e) = true ∧ eqvE (CL.smp e) e = true ∧ CL.nod (CL.smp e) ≤ CL.nod e ∧ CL.dep (CL.smp e) ≤ CL.dep e ∧ CL.smp (CL.smp e) = CL.smp e := by
  have hw := CL.Wf.of_radd e [] _ (CL.valid_coll hv).1
  have hs := CL.smp_valid hv
  obtain ⟨a1, a2, a3, a4⟩ := CL.smp_facts hw
  have s1 := (CL.valid_coll hv).2.2
  have s2 := (CL.valid_coll hs).2.2
  refine ⟨hs, ?_, ?_, ?_, CL.smp_smp hw⟩
  · simp only [eqvE, Bool.and_eq_true]
    exact ⟨(implE_iff hs hv).2 fun h hh => by rw [smp_ev h hw] at hh; exact hh, (implE_iff hv hs).2 fun h hh => by rw [smp_ev h hw]; exact hh⟩
  · unfold CL.nod; rw [if_pos s1, if_pos s2]; exact a2
  · unfold CL.dep; rw [if_pos s1, if_pos s2]; exact a3
end Go.Proofs.Ytmolffigeobnnaa
