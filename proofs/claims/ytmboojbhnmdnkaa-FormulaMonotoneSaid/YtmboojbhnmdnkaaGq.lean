
/- A mill's expression is a group over its own atoms. -/
import Derived.Test.YtmboojbhnmdnkaaGp
namespace CL
theorem Grp.mono {l l' : List At} (hl : ∀ a ∈ l, a ∈ l') : ∀ (d : Nat) (e : Ex), Grp l d e → Grp l' d e := by
  intro d
  induction d with
  | zero => intro e h; cases h with | leaf _ a ha => exact .leaf _ a (hl a ha)
  | succ d ih =>
    intro e h
    cases h with
    | leaf _ a ha => exact .leaf _ a (hl a ha)
    | node _ k kids h1 h2 h3 h4 h => exact .node _ k kids h1 h2 h3 h4 (fun e he => ih e (h e he))
theorem Grp.own {l : List At} : ∀ (d : Nat) (e : Ex), Grp l d e → ∀ x y : List At, CL.radd e x = some y → (∀ a ∈ x, a ∈ y) ∧ Grp y d e := by
  intro d
  have hleaf : ∀ (a : At) (d : Nat) (x y : List At), CL.radd (.mk 0 a []) x = some y → (∀ a ∈ x, a ∈ y) ∧ Grp y d (.mk 0 a []) := by
    intro a d x y h
    simp only [CL.radd, if_true] at h
    split at h
    · injection h with h
      subst h
      split
      · rename_i ha; exact ⟨fun b hb => hb, .leaf _ a ha⟩
      · exact ⟨fun b hb => by simp [hb], .leaf _ a (by simp)⟩
    · cases h
  induction d with
  | zero => intro e h; cases h with | leaf _ a ha => exact hleaf a 0
  | succ d ih =>
    intro e h
    cases h with
    | leaf _ a ha => exact hleaf a (d + 1)
    | node _ k kids h1 h2 h3 h4 h =>
      intro x y hy
      have hne : kids ≠ [] := by rintro rfl; simp at h1
      simp only [CL.radd, if_neg hne] at hy
      rw [if_neg (by simp only [noAt, not_or]; exact ⟨by omega, by omega, by simp⟩)] at hy
      have hk : ∀ ks : List Ex, (∀ e ∈ ks, Grp l d e) → ∀ x y : List At, CL.raddL ks x = some y → (∀ a ∈ x, a ∈ y) ∧ ∀ e ∈ ks, Grp y d e := by
        intro ks
        induction ks with
        | nil => intro _ x y h; simp only [CL.raddL] at h; injection h with h; subst h; exact ⟨fun _ h => h, by simp⟩
        | cons e ks ihk =>
          intro hks x y h
          simp only [CL.raddL] at h
          cases hr : CL.radd e x with
          | none => rw [hr] at h; cases h
          | some z =>
            rw [hr] at h
            have a := ih e (hks e (by simp)) x z hr
            have b := ihk (fun x hx => hks x (by simp [hx])) z y h
            refine ⟨fun c hc => b.1 c (a.1 c hc), fun c hc => ?_⟩
            rcases List.mem_cons.1 hc with rfl | hc
            · exact Grp.mono b.1 d _ a.2
            · exact b.2 c hc
      have := hk kids h x y hy
      exact ⟨this.1, .node _ k kids h1 h2 h3 h4 this.2⟩
end CL
namespace Go.Proofs.Ytmboojbhnmdnkaa
theorem grp_self {l : List CL.At} {e : CL.Ex} (h : CL.Grp l 2 e) (hv : CL.valid e = true) : CL.Grp (CL.atoms e) 2 e := by
  have hc := (CL.valid_coll hv).1
  have ha : CL.atoms e = CL.coll e [] := by unfold CL.atoms; rw [if_pos hv]
  rw [ha]; exact (h.own 2 e [] _ hc).2
theorem mono_laws {l : List CL.At} {e : CL.Ex} (h : CL.Grp l 2 e) (hv : CL.valid e = true) (set more : List Bool) :
    (holdsE e set = true → holdsE e ((List.range (CL.atoms e).length).map fun i => set.getD i false || more.getD i false) = true) ∧ holdsE e ((List.range (CL.atoms e).length).map fun _ => true) = true ∧ holdsE e [] = false := by
  have hs := grp_self h hv
  refine ⟨fun hh => ?_, ?_, ?_⟩
  · simp only [holdsE, hv, Bool.true_and] at hh ⊢
    rw [← hasA_take] at hh
    refine ev_sub e _ _ _ (fun i hi => ?_) hh
    rw [takeOf_get] at hi
    split at hi
    · rename_i hlt
      simp only [List.getD] at hi ⊢
      simp [hlt, hi]
    · cases hi
  · simp only [holdsE, hv, Bool.true_and]
    refine hs.evT _ (fun a ha => ?_) 2 e
    unfold hasA
    split
    · rename_i hn
      unfold ixo at hn
      rw [List.findIdx?_eq_none_iff] at hn
      have := hn a ha
      simp at this
    · rename_i i hi
      have := ixo_lt hi
      simp [List.getD, this]
  · simp only [holdsE, hv, Bool.true_and]
    refine hs.evF _ (fun a ha => ?_) 2 e
    unfold hasA
    split <;> simp
end Go.Proofs.Ytmboojbhnmdnkaa
