
/- Plain: the expression of sets of atoms; that of the minimal sets is equivalent to the expression. No program in sight. -/
import Derived.Test.YtmolffigeobnnaaNs
set_option linter.unusedVariables false
namespace CL
/-- may be a set of indices -/
def okSet (l : List At) (s : List Int) : Bool := decide (s.length ≤ 24) && s.all fun z => decide (0 ≤ z ∧ z < (l.length : Int))
def leafOf (l : List At) (z : Int) : Ex := .mk 0 (l.getD z.toNat noAt) []
def groupOf (l : List At) (s : List Int) : Ex := .mk s.length noAt (s.map (leafOf l))
def setsEx (l : List At) (ss : List (List Int)) : Ex := .mk 1 noAt (ss.map (groupOf l))
def fromOK (l : List At) (ss : List (List Int)) : Bool := decide (ss.length ≤ 24) && (ss.all (okSet l) && valid (setsEx l ss))
def fromE (l : List At) (ss : List (List Int)) : Ex := if fromOK l ss then setsEx l ss else noEx
theorem fromOK_long {l : List At} {ss : List (List Int)} (h : 24 < ss.length) : fromOK l ss = false := by
  unfold fromOK; rw [decide_eq_false (by omega)]; rfl
theorem fromOK_bad {l : List At} {ss : List (List Int)} {s : List Int} (h : s ∈ ss) (hs : okSet l s = false) : fromOK l ss = false := by
  have : ss.all (okSet l) = false := by
    rw [Bool.eq_false_iff]
    intro ha
    rw [List.all_eq_true] at ha
    rw [ha s h] at hs
    cases hs
  unfold fromOK; rw [this]; simp
theorem okSet_long {l : List At} {s : List Int} (h : 24 < s.length) : okSet l s = false := by
  unfold okSet; rw [decide_eq_false (by omega)]; rfl
theorem okSet_bad {l : List At} {s : List Int} {z : Int} (h : z ∈ s) (hz : ¬ (0 ≤ z ∧ z < (l.length : Int))) : okSet l s = false := by
  have : (s.all fun z => decide (0 ≤ z ∧ z < (l.length : Int))) = false := by
    rw [Bool.eq_false_iff]
    intro ha
    rw [List.all_eq_true] at ha
    exact hz (of_decide_eq_true (ha z h))
  unfold okSet; rw [this]; simp
theorem fromOK_end {l : List At} {ss : List (List Int)} (h : ss.length ≤ 24) (ha : ss.all (okSet l) = true) : fromOK l ss = valid (setsEx l ss) := by
  unfold fromOK; rw [decide_eq_true h, ha]; rfl
theorem fromE_no {l : List At} {ss : List (List Int)} (h : fromOK l ss = false) : fromE l ss = noEx := by
  unfold fromE; rw [h]; rfl
theorem fromE_yes {l : List At} {ss : List (List Int)} (h : fromOK l ss = true) : fromE l ss = setsEx l ss := by
  unfold fromE; rw [if_pos h]
end CL
namespace Go.Proofs.Ytmolffigeobnnaa
theorem hasA_get {l : List CL.At} {h : CL.At → Bool} {a : CL.At} (ha : a ∈ l) : hasA l (l.map h) a = h a := hasA_map ha
theorem group_ev (h : CL.At → Bool) (l : List CL.At) {s : List Int} (h0 : s ≠ []) (hs : CL.okSet l s = true) : ev h (CL.groupOf l s) = inS (l.map h) s := by
  have hk : s.map (CL.leafOf l) ≠ [] := by simpa using h0
  unfold CL.okSet at hs
  rw [Bool.and_eq_true, List.all_eq_true] at hs
  have hs2 := hs.2
  unfold CL.groupOf
  simp only [ev]
  rw [if_neg hk, Bool.eq_iff_iff, decide_eq_true_eq]
  have e : ((s.length : Int) ≤ (cnt h (s.map (CL.leafOf l)) : Nat)) ↔ (s.map (CL.leafOf l)).length ≤ cnt h (s.map (CL.leafOf l)) := by
    rw [List.length_map]; omega
  rw [e, cnt_all]
  unfold inS
  rw [List.all_eq_true]
  constructor
  · intro H z hz
    have hz2 := of_decide_eq_true (hs2 z hz)
    have := H _ (List.mem_map.2 ⟨z, hz, rfl⟩)
    unfold CL.leafOf at this
    simp only [ev, if_true] at this
    rw [Bool.and_eq_true]
    refine ⟨by simpa using hz2.1, ?_⟩
    have hlt : z.toNat < l.length := by omega
    simpa [List.getD, hlt] using this
  · intro H x hx
    obtain ⟨z, hz, rfl⟩ := List.mem_map.1 hx
    have hz2 := of_decide_eq_true (hs2 z hz)
    have := H z hz
    rw [Bool.and_eq_true] at this
    have hlt : z.toNat < l.length := by omega
    unfold CL.leafOf
    simp only [ev, if_true]
    simpa [List.getD, hlt] using this.2
theorem back {e : CL.Ex} (hv : CL.valid e = true) (hf : CL.fromOK (CL.atoms e) (minsE e) = true) : eqvE (CL.setsEx (CL.atoms e) (minsE e)) e = true := by
  unfold CL.fromOK at hf
  rw [Bool.and_eq_true, Bool.and_eq_true, List.all_eq_true] at hf
  obtain ⟨_, hok, hvf⟩ := hf
  have hwf := CL.Wf.of_radd _ [] _ (CL.valid_coll hvf).1
  have hne : ∀ s ∈ minsE e, s ≠ [] := by
    intro s hs h0
    subst h0
    unfold CL.setsEx at hwf
    cases hwf with
    | node k kids h0 h1 h2 hk =>
      have := hk (CL.groupOf (CL.atoms e) []) (List.mem_map.2 ⟨[], hs, rfl⟩)
      unfold CL.groupOf at this
      cases this with
      | leaf a hv' => exact absurd hv' (by decide)
      | node _ _ h0 _ _ _ => exact h0 rfl
  have key : ∀ h : CL.At → Bool, ev h (CL.setsEx (CL.atoms e) (minsE e)) = ev h e := by
    intro h
    have hk : (minsE e).map (CL.groupOf (CL.atoms e)) ≠ [] := by
      intro h0
      unfold CL.setsEx at hwf
      rw [h0] at hwf
      cases hwf with
      | node _ _ h0 _ _ _ => exact h0 rfl
    have h1 : ev h (CL.setsEx (CL.atoms e) (minsE e)) = (minsE e).any (inS ((CL.atoms e).map h)) := by
      unfold CL.setsEx
      simp only [ev]
      rw [if_neg hk, Bool.eq_iff_iff, decide_eq_true_eq]
      have e1 : ((1 : Int) ≤ (cnt h ((minsE e).map (CL.groupOf (CL.atoms e))) : Nat)) ↔ 1 ≤ cnt h ((minsE e).map (CL.groupOf (CL.atoms e))) := by omega
      rw [e1, cnt_any, List.any_eq_true]
      constructor
      · rintro ⟨x, hx, hxv⟩
        obtain ⟨s, hs, rfl⟩ := List.mem_map.1 hx
        exact ⟨s, hs, by rw [← group_ev h _ (hne s hs) (hok s hs)]; exact hxv⟩
      · rintro ⟨s, hs, hsv⟩
        exact ⟨_, List.mem_map.2 ⟨s, hs, rfl⟩, by rw [group_ev h _ (hne s hs) (hok s hs)]; exact hsv⟩
    have h2 : (minsE e).any (inS ((CL.atoms e).map h)) = holdsE e ((CL.atoms e).map h) := by
      unfold minsE
      rw [if_pos hv]
      exact covers_iff (fun s t _ _ hst hh => holdsE_mono hst hh) (by simp)
    rw [h1, h2]
    unfold holdsE
    rw [hv, Bool.true_and]
    exact ev_atoms hv fun a ha => hasA_map ha
  unfold eqvE
  rw [Bool.and_eq_true]
  exact ⟨(implE_iff hvf hv).2 fun h hh => by rw [← key h]; exact hh, (implE_iff hv hvf).2 fun h hh => by rw [key h]; exact hh⟩
end Go.Proofs.Ytmolffigeobnnaa
