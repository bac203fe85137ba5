
/- Plain facts: truth of an expression is monotone; a pruned set is minimal. -/
import Derived.Test.YtmboojbhnmdnkaaFp
namespace Go.Proofs.Ytmboojbhnmdnkaa
open Go.RowKit
set_option linter.unusedVariables false
set_option linter.unusedSimpArgs false
theorem ev_mono {h h' : CL.At → Bool} (hh : ∀ a, h a = true → h' a = true) (e : CL.Ex) : ev h e = true → ev h' e = true := by
  induction e using CL.Ex.ind with
  | h k a kids ih =>
    have hL : ∀ ks : List CL.Ex, (∀ e ∈ ks, ev h e = true → ev h' e = true) → cnt h ks ≤ cnt h' ks := by
      intro ks
      induction ks with
      | nil => intro _; simp [cnt]
      | cons e ks ihk =>
        intro hk
        have h1 := hk e (by simp)
        have h2 := ihk (fun x hx => hk x (by simp [hx]))
        simp only [cnt]
        split
        · rename_i he; rw [if_pos (h1 he)]; omega
        · split <;> omega
    simp only [ev]
    split
    · exact hh a
    · intro hd
      have := hL kids ih
      simp only [decide_eq_true_eq] at hd ⊢
      omega
/-- s is within t -/
def Sub (s t : List Bool) : Prop := ∀ i : Nat, s.getD i false = true → t.getD i false = true
theorem Sub.rf (s : List Bool) : Sub s s := fun _ h => h
theorem Sub.tr {a b c : List Bool} (h : Sub a b) (k : Sub b c) : Sub a c := fun i hi => k i (h i hi)
theorem getD_set (s : List Bool) (q i : Nat) : (s.set q false).getD i false = (if q = i then false else s.getD i false) := by
  simp only [List.getD, List.getElem?_set]
  split
  · split <;> simp
  · rfl
theorem Sub.set {s t : List Bool} (h : Sub s t) (q : Nat) : Sub (s.set q false) (t.set q false) := by
  intro i hi
  rw [getD_set] at hi ⊢
  split at hi
  · exact absurd hi (by simp)
  · rename_i hq; rw [if_neg hq]; exact h i hi
theorem Sub.drop1 (s : List Bool) (q : Nat) : Sub (s.set q false) s := by
  intro i hi
  rw [getD_set] at hi
  split at hi
  · exact absurd hi (by simp)
  · exact hi
theorem hasA_sub {l : List CL.At} {s t : List Bool} (h : Sub s t) (a : CL.At) : hasA l s a = true → hasA l t a = true := by
  unfold hasA
  split
  · exact id
  · exact h _
theorem pgo_sub (f : List Bool → Bool) : ∀ (i : Nat) (r : List Bool), Sub (pgo f i r) r
  | 0, r => Sub.rf r
  | i + 1, r => by
    simp only [pgo]
    refine (pgo_sub f i _).tr ?_
    split
    · exact Sub.drop1 r i
    · exact Sub.rf r
theorem pgo_holds {f : List Bool → Bool} : ∀ (i : Nat) (r : List Bool), f r = true → f (pgo f i r) = true
  | 0, r, h => h
  | i + 1, r, h => by
    simp only [pgo]
    apply pgo_holds
    split
    · rename_i hc; exact hc.2
    · exact h
theorem pgo_min {f : List Bool → Bool} (hf : ∀ s t, Sub s t → f s = true → f t = true) : ∀ (i : Nat) (r : List Bool) (q : Nat), q < i → (pgo f i r).getD q false = true → f ((pgo f i r).set q false) = false
  | 0, r, q, h, _ => by omega
  | i + 1, r, q, h, hq => by
    simp only [pgo] at hq ⊢
    rcases Nat.lt_or_ge q i with hlt | hge
    · exact pgo_min hf i _ q hlt hq
    · obtain rfl : q = i := by omega
      by_cases hc : r.getD q false = true ∧ f (r.set q false) = true
      · rw [if_pos hc] at hq
        have := pgo_sub f q _ q hq
        rw [getD_set, if_pos rfl] at this
        exact absurd this (by simp)
      · rw [if_neg hc] at hq ⊢
        have h1 := pgo_sub f q r q hq
        cases h2 : f ((pgo f q r).set q false)
        · rfl
        · exact absurd ⟨h1, hf _ _ ((pgo_sub f q r).set q) h2⟩ hc
theorem takeOf_get (n : Nat) (set : List Bool) (i : Nat) : (takeOf n set).getD i false = (if i < n then set.getD i false else false) := by
  simp only [takeOf, List.getD, List.getElem?_map, List.getElem?_range]
  split <;> simp [*]
theorem takeOf_sub (n : Nat) (set : List Bool) : Sub (takeOf n set) set := by
  intro i hi
  rw [takeOf_get] at hi
  split at hi
  · exact hi
  · exact absurd hi (by simp)
theorem ixo_lt {l : List CL.At} {a : CL.At} {i : Nat} (h : ixo l a = some i) : i < l.length := by
  unfold ixo at h
  rw [List.findIdx?_eq_some_iff_getElem] at h
  exact h.1
theorem hasA_take (l : List CL.At) (set : List Bool) : hasA l (takeOf l.length set) = hasA l set := by
  funext a
  unfold hasA
  split
  · rfl
  · rename_i i hi
    rw [takeOf_get, if_pos (ixo_lt hi)]
theorem ev_sub (e : CL.Ex) (l : List CL.At) (s t : List Bool) (h : Sub s t) : ev (hasA l s) e = true → ev (hasA l t) e = true := ev_mono (hasA_sub h) e
theorem prn_eq {e : CL.Ex} {set : List Bool} (h : holdsE e set = true) : prn e set = pgo (fun s => ev (hasA (CL.atoms e) s) e) (CL.atoms e).length (takeOf (CL.atoms e).length set) := by
  simp only [holdsE, Bool.and_eq_true] at h
  unfold prn
  rw [if_pos h]
theorem prn_holds {e : CL.Ex} {set : List Bool} (h : holdsE e set = true) : holdsE e (prn e set) = true := by
  rw [prn_eq h]
  simp only [holdsE, Bool.and_eq_true] at h ⊢
  refine ⟨h.1, ?_⟩
  exact pgo_holds (f := fun s => ev (hasA (CL.atoms e) s) e) _ _ (by rw [hasA_take]; exact h.2)
theorem prn_min {e : CL.Ex} {set : List Bool} (h : holdsE e set = true) {i : Nat} (hi : i < (prn e set).length) (hp : (prn e set)[i] = true) :
    i < set.length ∧ set.getD i false = true ∧ holdsE e ((prn e set).set i false) = false := by
  have hg : (prn e set).getD i false = true := by simp [List.getD, hi, hp]
  have hin : i < (CL.atoms e).length := by rw [← prn_len e set]; exact hi
  rw [prn_eq h] at hg ⊢
  have h1 := ((pgo_sub _ _ _).tr (takeOf_sub _ _)) i hg
  refine ⟨?_, h1, ?_⟩
  · rcases Nat.lt_or_ge i set.length with hlt | hge
    · exact hlt
    · simp [List.getD, List.getElem?_eq_none hge] at h1
  · simp only [holdsE]
    rw [pgo_min (f := fun s => ev (hasA (CL.atoms e) s) e) (fun s t hs => ev_sub e _ s t hs) _ _ i hin hg]
    simp
end Go.Proofs.Ytmboojbhnmdnkaa
