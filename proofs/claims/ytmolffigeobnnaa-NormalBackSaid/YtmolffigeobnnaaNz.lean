
/- Plain facts: every minimal set meets every blocking set; both exist; truth at all atoms and at none. -/
import Derived.Test.YtmolffigeobnnaaNs
namespace Go.Proofs.Ytmolffigeobnnaa
set_option linter.unusedVariables false
theorem wf_all {h : CL.At → Bool} (hh : ∀ a, h a = true) {e : CL.Ex} (hw : CL.Wf e) : ev h e = true := by
  induction hw with
  | leaf a hv => simp [ev, hh]
  | node k kids h0 h1 h2 hk ih =>
    simp only [ev]
    rw [if_neg h0, decide_eq_true_eq]
    have := (cnt_all h kids).2 ih
    omega
theorem wf_none {h : CL.At → Bool} (hh : ∀ a, h a = false) {e : CL.Ex} (hw : CL.Wf e) : ev h e = false := by
  induction hw with
  | leaf a hv => simp [ev, hh]
  | node k kids h0 h1 h2 hk ih =>
    simp only [ev]
    rw [if_neg h0, decide_eq_false_iff_not]
    have : ¬ 1 ≤ cnt h kids := fun hc => by
      obtain ⟨e, he, hv⟩ := (cnt_any h kids).1 hc
      rw [ih e he] at hv; cases hv
    omega
theorem hasA_full {l : List CL.At} {a : CL.At} (h : a ∈ l) : hasA l (List.replicate l.length true) a = true := by
  obtain ⟨i, hi, h1, _⟩ := ixo_mem h
  unfold hasA; rw [h1]; simp [List.getD, hi]
theorem wf_of {e : CL.Ex} (hv : CL.valid e = true) : CL.Wf e := CL.Wf.of_radd e [] _ (CL.valid_coll hv).1
theorem holds_full {e : CL.Ex} (hv : CL.valid e = true) : holdsE e (List.replicate (CL.atoms e).length true) = true := by
  simp only [holdsE, hv, Bool.true_and]
  rw [ev_atoms hv (h' := fun _ => true) fun a ha => hasA_full ha]
  exact wf_all (fun _ => rfl) (wf_of hv)
theorem mins_ne {e : CL.Ex} (hv : CL.valid e = true) : 0 < (minsE e).length := by
  obtain ⟨t, h1, h2, h3⟩ := below_min (h := holdsE e) _ _ (Nat.le_refl _) (holds_full hv)
  simp only [List.length_replicate] at h1
  have hm : lsOf (CL.atoms e).length (numOf t) ∈ minsE e := by
    unfold minsE
    rw [if_pos hv]
    exact mem_minsN.2 ⟨numOf t, by rw [← h1]; exact numOf_lt t, by rw [← h1, bsOf_num]; exact h3, rfl⟩
  exact List.length_pos_of_mem hm
theorem blks_ne {e : CL.Ex} (hv : CL.valid e = true) : 0 < (blksE e).length := by
  rw [blks_dual, show CL.dualE e = CL.dual e by simp [CL.dualE, hv]]
  exact mins_ne (CL.dual_valid hv).1
/-- two lists have an element in common -/
def cmn (a b : List Int) : Bool := a.any fun x => b.any fun y => decide (x = y)
theorem meets {e : CL.Ex} (hv : CL.valid e = true) {l m : List Int} (hl : l ∈ minsE e) (hm : m ∈ blksE e) : cmn l m = true := by
  unfold minsE at hl
  unfold blksE at hm
  rw [if_pos hv] at hl hm
  obtain ⟨b1, _, h1, rfl⟩ := mem_minsN.1 hl
  obtain ⟨b2, _, h2, rfl⟩ := mem_minsN.1 hm
  have k1 := (minS_iff.1 h1).1
  have k2 := (minS_iff.1 h2).1
  simp only [holdsE, hpl, hv, Bool.true_and, Bool.not_eq_true'] at k1 k2
  cases hc : cmn (lsOf (CL.atoms e).length b1) (lsOf (CL.atoms e).length b2)
  · have hno : ∀ i, i < (CL.atoms e).length → b1.testBit i = true → b2.testBit i = false := fun i hi hb1 => by
      cases hb2 : b2.testBit i
      · rfl
      · have : cmn (lsOf (CL.atoms e).length b1) (lsOf (CL.atoms e).length b2) = true := by
          unfold cmn
          rw [List.any_eq_true]
          refine ⟨i, mem_lsOf.2 ⟨i, hi, hb1, rfl⟩, ?_⟩
          rw [List.any_eq_true]
          exact ⟨i, mem_lsOf.2 ⟨i, hi, hb2, rfl⟩, by simp⟩
        rw [hc] at this; cases this
    have hs : Sub (bsOf (CL.atoms e).length b1) (restOf (CL.atoms e).length (bsOf (CL.atoms e).length b2)) := fun i hi => by
      rw [bsOf_get] at hi
      simp only [Bool.and_eq_true, decide_eq_true_eq] at hi
      have := hno i hi.1 hi.2
      simp [restOf, List.getD, hi.1, bsOf, this]
    have := ev_sub e _ _ _ hs k1
    rw [k2] at this; cases this
  · rfl
/-- one of the lists lies in a set -/
def wth (ls : List (List Int)) (s : List Bool) : Bool := ls.any (inS s)
theorem mins_covers {e : CL.Ex} (hv : CL.valid e = true) {s : List Bool} (hs : s.length = (CL.atoms e).length) : wth (minsE e) s = holdsE e s := by
  unfold wth minsE
  rw [if_pos hv]
  exact covers_iff (fun a b _ _ h hh => holdsE_mono h hh) hs
theorem blks_covers {e : CL.Ex} (hv : CL.valid e = true) {s : List Bool} (hs : s.length = (CL.atoms e).length) : wth (blksE e) s = hpl e s := by
  rw [blks_dual, show CL.dualE e = CL.dual e by simp [CL.dualE, hv], mins_covers (CL.dual_valid hv).1 (by rw [hs, (CL.dual_valid hv).2.1]), dual_holds hv]
end Go.Proofs.Ytmolffigeobnnaa
