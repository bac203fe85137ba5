
/- Plain facts: the dual of an expression. No program in sight. -/
import Derived.Test.YtmolffigeobnnaaNq
namespace CL
mutual
def dual : Ex → Ex
  | .mk k a kids => if kids = [] then .mk 0 a [] else .mk (kids.length - k + 1) noAt (dualL kids)
def dualL : List Ex → List Ex
  | [] => []
  | e :: l => dual e :: dualL l
end
theorem dualL_map : ∀ l : List Ex, dualL l = l.map dual
  | [] => rfl
  | e :: l => by simp [dualL, dualL_map l]
theorem dualL_len (l : List Ex) : (dualL l).length = l.length := by simp [dualL_map]
theorem dualL_nil {l : List Ex} : dualL l = [] ↔ l = [] := by simp [dualL_map]
/-- every node is an atom or a group, its K in bounds -/
def okN (e : Ex) : Prop := ∃ l x, radd e l = some x
theorem radd_node {k : Int} {a : At} {kids : List Ex} {l x : List At} (h : radd (.mk k a kids) l = some x) : (kids = [] ∧ k = 0 ∧ vatom a = true) ∨ (kids ≠ [] ∧ 1 ≤ k ∧ k ≤ kids.length ∧ a = noAt ∧ raddL kids l = some x) := by
  simp only [radd] at h
  split at h
  · rename_i hk
    split at h
    · rename_i hv; exact .inl ⟨hk, hv⟩
    · cases h
  · rename_i hk
    split at h
    · cases h
    · rename_i hb
      simp only [not_or, Classical.not_not] at hb
      exact .inr ⟨hk, by omega, by omega, hb.2.2, h⟩
theorem dual_radd (e : Ex) : ∀ l x, radd e l = some x → radd (dual e) l = some x ∧ dual (dual e) = e ∧ depth (dual e) = depth e ∧ size (dual e) = size e := by
  induction e using Ex.ind with
  | h k a kids ih =>
    have hL : ∀ ks : List Ex, (∀ e ∈ ks, ∀ l x, radd e l = some x → radd (dual e) l = some x ∧ dual (dual e) = e ∧ depth (dual e) = depth e ∧ size (dual e) = size e) →
        ∀ l x, raddL ks l = some x → raddL (dualL ks) l = some x ∧ dualL (dualL ks) = ks ∧ depthL (dualL ks) = depthL ks ∧ sizeL (dualL ks) = sizeL ks := by
      intro ks
      induction ks with
      | nil => intro _ l x h; simp only [dualL]; exact ⟨h, trivial, trivial, trivial⟩
      | cons e ks ihk =>
        intro hk l x h
        simp only [raddL] at h
        cases hr : radd e l with
        | none => rw [hr] at h; cases h
        | some y =>
          rw [hr] at h
          obtain ⟨a1, a2, a3, a4⟩ := hk e (by simp) l y hr
          obtain ⟨b1, b2, b3, b4⟩ := ihk (fun x hx => hk x (by simp [hx])) y x h
          simp only [dualL, raddL, depthL, sizeL, a1, a2, a3, a4, b1, b2, b3, b4]
          exact ⟨trivial, trivial, trivial, trivial⟩
    intro l x h
    rcases radd_node h with ⟨rfl, rfl, hv⟩ | ⟨hk, h1, h2, rfl, hx⟩
    · simp only [dual, if_true, depth, depthL, size, sizeL]
      exact ⟨h, trivial, trivial, trivial⟩
    · obtain ⟨b1, b2, b3, b4⟩ := hL kids ih l x hx
      have hd : dual (.mk k noAt kids) = .mk (kids.length - k + 1) noAt (dualL kids) := by simp only [dual]; rw [if_neg hk]
      have hk2 : dualL kids ≠ [] := fun e => hk (dualL_nil.1 e)
      rw [hd]
      refine ⟨?_, ?_, ?_, ?_⟩
      · simp only [radd]
        rw [if_neg hk2, if_neg (by rw [dualL_len]; simp only [not_or, Classical.not_not]; exact ⟨by omega, by omega, trivial⟩)]
        exact b1
      · simp only [dual]
        rw [if_neg hk2, b2, dualL_len, show ((kids.length : Int) - (kids.length - k + 1) + 1) = k by omega]
      · simp only [depth, b3]
      · simp only [size, b4]
theorem dual_valid {e : Ex} (h : valid e = true) : valid (dual e) = true ∧ atoms (dual e) = atoms e ∧ dual (dual e) = e := by
  obtain ⟨h1, h2, h3⟩ := valid_coll h
  obtain ⟨d1, d2, d3, d4⟩ := dual_radd e [] _ h1
  have hv : valid (dual e) = true := by
    unfold valid
    rw [d1]
    simp only [small, d3, d4] at h3 ⊢
    simp only [h3, Bool.true_and, decide_eq_true_eq]
    exact h2
  refine ⟨hv, ?_, d2⟩
  unfold atoms
  rw [if_pos hv, if_pos h]
  obtain ⟨k1, _, _⟩ := valid_coll hv
  rw [d1] at k1
  injection k1 with k1
  exact k1.symm
def noEx : Ex := .mk 0 noAt []
def dualE (e : Ex) : Ex := if valid e then dual e else noEx
theorem noEx_invalid : valid noEx = false := by decide
end CL
namespace Go.Proofs.Ytmolffigeobnnaa
/-- atoms of an expression are among the ones that were found -/
theorem radd_sub (e : CL.Ex) : ∀ l x : List CL.At, CL.radd e l = some x → ∀ h h' : CL.At → Bool, (∀ a ∈ x, h a = h' a) → ev h e = ev h' e := by
  induction e using CL.Ex.ind with
  | h k a kids ih =>
    have hL : ∀ ks : List CL.Ex, (∀ e ∈ ks, ∀ l x : List CL.At, CL.radd e l = some x → ∀ h h' : CL.At → Bool, (∀ a ∈ x, h a = h' a) → ev h e = ev h' e) →
        ∀ l x : List CL.At, CL.raddL ks l = some x → (∃ r, x = l ++ r) ∧ ∀ h h' : CL.At → Bool, (∀ a ∈ x, h a = h' a) → cnt h ks = cnt h' ks := by
      intro ks
      induction ks with
      | nil => intro _ l x hx; simp only [CL.raddL] at hx; injection hx with hx; exact ⟨⟨[], by simp [hx]⟩, fun _ _ _ => by simp [cnt]⟩
      | cons e ks ihk =>
        intro hk l x hx
        simp only [CL.raddL] at hx
        cases hr : CL.radd e l with
        | none => rw [hr] at hx; cases hx
        | some y =>
          rw [hr] at hx
          obtain ⟨r, rfl⟩ := CL.radd_pre e l y hr
          obtain ⟨⟨r2, rfl⟩, h2⟩ := ihk (fun x hx => hk x (by simp [hx])) _ x hx
          refine ⟨⟨r ++ r2, by simp⟩, fun h h' hh => ?_⟩
          simp only [cnt]
          rw [h2 h h' hh, hk e (by simp) l _ hr h h' (fun a ha => hh a (by simp only [List.mem_append] at ha ⊢; rcases ha with h | h <;> simp [h]))]
    intro l x hx h h' hh
    rcases CL.radd_node hx with ⟨rfl, rfl, hv⟩ | ⟨hk, h1, h2, rfl, hy⟩
    · simp only [CL.radd, hv, and_self, if_true] at hx
      injection hx with hx
      simp only [ev, if_true]
      refine hh a ?_
      rw [← hx]; split
      · assumption
      · simp
    · simp only [ev]
      rw [if_neg hk, if_neg hk, (hL kids ih l x hy).2 h h' hh]
theorem cnt_le (h : CL.At → Bool) : ∀ ks : List CL.Ex, cnt h ks ≤ ks.length
  | [] => by simp [cnt]
  | e :: ks => by have := cnt_le h ks; simp only [cnt, List.length_cons]; split <;> omega
theorem dual_ev (e : CL.Ex) : ∀ l x : List CL.At, CL.radd e l = some x → ∀ h : CL.At → Bool, ev h (CL.dual e) = !ev (fun a => !h a) e := by
  induction e using CL.Ex.ind with
  | h k a kids ih =>
    have hL : ∀ ks : List CL.Ex, (∀ e ∈ ks, ∀ l x : List CL.At, CL.radd e l = some x → ∀ h : CL.At → Bool, ev h (CL.dual e) = !ev (fun a => !h a) e) →
        ∀ l x : List CL.At, CL.raddL ks l = some x → ∀ h : CL.At → Bool, cnt h (CL.dualL ks) + cnt (fun a => !h a) ks = ks.length := by
      intro ks
      induction ks with
      | nil => intro _ l x hx h; simp [CL.dualL, cnt]
      | cons e ks ihk =>
        intro hk l x hx h
        simp only [CL.raddL] at hx
        cases hr : CL.radd e l with
        | none => rw [hr] at hx; cases hx
        | some y =>
          rw [hr] at hx
          have a := hk e (by simp) l y hr h
          have b := ihk (fun x hx => hk x (by simp [hx])) y x hx h
          simp only [CL.dualL, cnt, a, List.length_cons]
          cases ev (fun a => !h a) e <;> simp <;> omega
    intro l x hx h
    rcases CL.radd_node hx with ⟨rfl, rfl, hv⟩ | ⟨hk, h1, h2, rfl, hy⟩
    · simp [CL.dual, ev]
    · have := hL kids ih l x hy h
      have hle := cnt_le (fun a => !h a) kids
      have hd : CL.dual (.mk k CL.noAt kids) = .mk (kids.length - k + 1) CL.noAt (CL.dualL kids) := by simp only [CL.dual]; rw [if_neg hk]
      rw [hd]
      simp only [ev]
      rw [if_neg hk, if_neg (fun e => hk (CL.dualL_nil.1 e)), Bool.eq_iff_iff]
      simp only [decide_eq_true_eq, Bool.not_eq_true', decide_eq_false_iff_not]
      omega
theorem hasA_not {l : List CL.At} {set : List Bool} {a : CL.At} (h : a ∈ l) : hasA l (restOf l.length set) a = !hasA l set a := by
  unfold hasA
  cases hi : ixo l a with
  | none =>
    unfold ixo at hi
    rw [List.findIdx?_eq_none_iff] at hi
    have := hi a h
    simp at this
  | some i =>
    have := ixo_lt hi
    simp [restOf, List.getD, this]
/-- the dual holds for a set exactly if without the set's atoms the expression does not -/
theorem dual_holds {e : CL.Ex} (hv : CL.valid e = true) (set : List Bool) : holdsE (CL.dual e) set = hpl e set := by
  obtain ⟨h1, h2, h3⟩ := CL.dual_valid hv
  obtain ⟨r1, r2, r3⟩ := CL.valid_coll hv
  have ha : CL.atoms e = CL.coll e [] := by unfold CL.atoms; rw [if_pos hv]
  simp only [holdsE, hpl, h1, hv, Bool.true_and, h2]
  rw [dual_ev e [] _ r1]
  congr 1
  refine radd_sub e [] _ r1 _ _ (fun a haa => ?_)
  rw [← ha] at haa
  rw [hasA_not haa]
end Go.Proofs.Ytmolffigeobnnaa
