
/- Plain facts: which expressions imply which. No program in sight. -/
import Derived.Test.YtmolffigeobnnaaNd
namespace Go.Proofs.Ytmolffigeobnnaa
open Go.RowKit
set_option linter.unusedVariables false
/-- atoms of a valid expression: what truth depends on -/
theorem ev_atoms {e : CL.Ex} (hv : CL.valid e = true) {h h' : CL.At → Bool} (hh : ∀ a ∈ CL.atoms e, h a = h' a) : ev h e = ev h' e := by
  have ha : CL.atoms e = CL.coll e [] := by unfold CL.atoms; rw [if_pos hv]
  rw [ha] at hh
  exact radd_sub e [] _ (CL.valid_coll hv).1 h h' hh
theorem atoms_nodup (e : CL.Ex) : (CL.atoms e).Nodup := by
  unfold CL.atoms
  split
  · rename_i hv
    have := (CL.valid_coll hv).2.1.2
    exact this.imp fun h e => h (by rw [e])
  · simp
theorem ixo_mem {l : List CL.At} {a : CL.At} (h : a ∈ l) : ∃ i, ∃ hi : i < l.length, ixo l a = some i ∧ l[i] = a := by
  cases hh : ixo l a with
  | none =>
    unfold ixo at hh
    rw [List.findIdx?_eq_none_iff] at hh
    have := hh a h; simp at this
  | some i =>
    refine ⟨i, ixo_lt hh, rfl, ?_⟩
    unfold ixo at hh
    rw [List.findIdx?_eq_some_iff_getElem] at hh
    obtain ⟨h1, h2, _⟩ := hh
    simpa using h2
theorem ixo_at {l : List CL.At} (hn : l.Nodup) {i : Nat} (hi : i < l.length) : ixo l l[i] = some i := by
  obtain ⟨j, hj, h1, h2⟩ := ixo_mem (List.getElem_mem hi)
  rw [h1, (List.getElem_inj hn).1 h2]
theorem hasA_out {l : List CL.At} {s : List Bool} {a : CL.At} (h : a ∉ l) : hasA l s a = false := by
  unfold hasA; rw [ixo_none h]
/-- the set of second atoms that are among the first's -/
def oth (l m : List CL.At) (s : List Bool) : List Bool := m.map fun a => hasA l s a
theorem hasA_map {m : List CL.At} {f : CL.At → Bool} {a : CL.At} (h : a ∈ m) : hasA m (m.map f) a = f a := by
  obtain ⟨i, hi, h1, h2⟩ := ixo_mem h
  unfold hasA
  rw [h1]
  simp [List.getD, hi, h2]
/-- b holds for every set of atoms for which a holds -/
def Imp (a b : CL.Ex) : Prop := ∀ h : CL.At → Bool, ev h a = true → ev h b = true
def implR (a b : CL.Ex) : Bool := CL.valid a && CL.valid b && (List.range (2 ^ (CL.atoms a).length)).all fun k => !holdsE a (bsOf (CL.atoms a).length k) || holdsE b (oth (CL.atoms a) (CL.atoms b) (bsOf (CL.atoms a).length k))
theorem oth_ev {a b : CL.Ex} (hb : CL.valid b = true) (s : List Bool) : holdsE b (oth (CL.atoms a) (CL.atoms b) s) = ev (hasA (CL.atoms a) s) b := by
  simp only [holdsE, hb, Bool.true_and]
  exact ev_atoms hb fun x hx => hasA_map hx
theorem implR_iff {a b : CL.Ex} (ha : CL.valid a = true) (hb : CL.valid b = true) : implR a b = true ↔ Imp a b := by
  simp only [implR, ha, hb, Bool.true_and, List.all_eq_true, List.mem_range, Bool.or_eq_true, Bool.not_eq_true', oth_ev hb]
  constructor
  · intro H h hh
    let s := (CL.atoms a).map h
    have hs : s.length = (CL.atoms a).length := by simp [s]
    have h1 := H (numOf s) (by rw [← hs]; exact numOf_lt s)
    rw [← hs, bsOf_num] at h1
    have e1 : ev (hasA (CL.atoms a) s) a = true := by rw [ev_atoms ha (h' := h) fun x hx => hasA_map hx]; exact hh
    rcases h1 with h1 | h1
    · simp only [holdsE, ha, Bool.true_and] at h1; rw [e1] at h1; cases h1
    · refine ev_mono (h := hasA (CL.atoms a) s) (fun x hx => ?_) b h1
      by_cases hm : x ∈ CL.atoms a
      · rw [← hx]; exact (hasA_map hm).symm
      · rw [hasA_out hm] at hx; cases hx
  · intro H k hk
    cases hh : holdsE a (bsOf (CL.atoms a).length k)
    · exact .inl rfl
    · refine .inr (H _ ?_)
      simpa [holdsE, ha] using hh
/-- the set of second atoms that the indices of a list name among the first's -/
def trS (l m : List CL.At) (zs : List Int) : List Bool := (List.range m.length).map fun j => zs.any fun z => match l[z.toNat]? with | none => false | some a => decide (ixo m a = some j)
theorem trS_len (l m : List CL.At) (zs : List Int) : (trS l m zs).length = m.length := by simp [trS]
theorem trS_hasA {l m : List CL.At} (hl : l.Nodup) (b : Nat) {x : CL.At} (hx : x ∈ m) : hasA m (trS l m (lsOf l.length b)) x = hasA l (bsOf l.length b) x := by
  obtain ⟨j, hj, h1, h2⟩ := ixo_mem hx
  have e1 : hasA m (trS l m (lsOf l.length b)) x = (lsOf l.length b).any fun z => match l[z.toNat]? with | none => false | some a => decide (ixo m a = some j) := by
    unfold hasA; rw [h1]; simp [trS, List.getD, hj]
  rw [e1, Bool.eq_iff_iff, List.any_eq_true]
  constructor
  · rintro ⟨z, hz, h3⟩
    obtain ⟨i, hi, hb, rfl⟩ := mem_lsOf.1 hz
    simp only [Int.toNat_natCast, List.getElem?_eq_getElem hi, decide_eq_true_eq] at h3
    have : l[i] = x := by
      have h4 := h3
      unfold ixo at h4
      rw [List.findIdx?_eq_some_iff_getElem] at h4
      obtain ⟨p1, p2, _⟩ := h4
      have p2 : m[j] = l[i] := by simpa using p2
      rw [← p2, h2]
    rw [← this]
    unfold hasA
    rw [ixo_at hl hi]
    simp only [bsOf_get, hi, decide_true, Bool.true_and]
    exact hb
  · intro hh
    by_cases hm : x ∈ l
    · obtain ⟨i, hi, h3, h4⟩ := ixo_mem hm
      unfold hasA at hh
      rw [h3] at hh
      simp only [bsOf_get, hi, decide_true, Bool.true_and] at hh
      refine ⟨i, mem_lsOf.2 ⟨i, hi, hh, rfl⟩, ?_⟩
      simp only [Int.toNat_natCast, List.getElem?_eq_getElem hi, h4, h1, decide_true]
    · rw [hasA_out hm] at hh; cases hh
def minsE (e : CL.Ex) : List (List Int) := if CL.valid e then minsN (CL.atoms e).length (holdsE e) else []
def blksE (e : CL.Ex) : List (List Int) := if CL.valid e then minsN (CL.atoms e).length (hpl e) else []
def implE (a b : CL.Ex) : Bool := CL.valid a && CL.valid b && (minsE a).all fun l => holdsE b (trS (CL.atoms a) (CL.atoms b) l)
theorem holdsE_mono {e : CL.Ex} {s t : List Bool} (h : Sub s t) (hs : holdsE e s = true) : holdsE e t = true := by
  simp only [holdsE, Bool.and_eq_true] at hs ⊢
  exact ⟨hs.1, ev_sub e _ _ _ h hs.2⟩
theorem trS_ev {a b : CL.Ex} (hb : CL.valid b = true) (k : Nat) : holdsE b (trS (CL.atoms a) (CL.atoms b) (lsOf (CL.atoms a).length k)) = ev (hasA (CL.atoms a) (bsOf (CL.atoms a).length k)) b := by
  simp only [holdsE, hb, Bool.true_and]
  exact ev_atoms hb fun x hx => trS_hasA (atoms_nodup a) k hx
theorem implE_iff {a b : CL.Ex} (ha : CL.valid a = true) (hb : CL.valid b = true) : implE a b = true ↔ Imp a b := by
  rw [← implR_iff ha hb]
  simp only [implE, implR, minsE, ha, hb, Bool.true_and, if_true, List.all_eq_true, List.mem_range, Bool.or_eq_true, Bool.not_eq_true', oth_ev hb]
  constructor
  · intro H k hk
    cases hh : holdsE a (bsOf (CL.atoms a).length k)
    · exact .inl rfl
    · refine .inr ?_
      obtain ⟨t, h1, h2, h3⟩ := below_min (h := holdsE a) _ _ (Nat.le_refl _) hh
      rw [bsOf_len] at h1
      have hm : lsOf (CL.atoms a).length (numOf t) ∈ minsN (CL.atoms a).length (holdsE a) :=
        mem_minsN.2 ⟨numOf t, by rw [← h1]; exact numOf_lt t, by rw [← h1, bsOf_num]; exact h3, rfl⟩
      have := H _ hm
      rw [trS_ev hb, ← h1, bsOf_num] at this
      exact ev_mono (hasA_sub h2) b this
  · intro H l hl
    obtain ⟨k, hk, hm, rfl⟩ := mem_minsN.1 hl
    rw [trS_ev hb]
    rcases H k hk with h | h
    · rw [(minS_iff.1 hm).1] at h; cases h
    · exact h
theorem impl_eq (a b : CL.Ex) : implE a b = implR a b := by
  cases ha : CL.valid a
  · simp [implE, implR, ha]
  · cases hb : CL.valid b
    · simp [implE, implR, hb]
    · rw [Bool.eq_iff_iff, implE_iff ha hb, implR_iff ha hb]
def eqvE (a b : CL.Ex) : Bool := implE a b && implE b a
theorem dual_imp {a b : CL.Ex} (ha : CL.valid a = true) (hb : CL.valid b = true) : implE a b = implE (CL.dual b) (CL.dual a) := by
  rw [Bool.eq_iff_iff, implE_iff ha hb, implE_iff (CL.dual_valid hb).1 (CL.dual_valid ha).1]
  have ea := dual_ev a [] _ (CL.valid_coll ha).1
  have eb := dual_ev b [] _ (CL.valid_coll hb).1
  constructor
  · intro H h hh
    rw [eb] at hh
    rw [ea]
    cases h1 : ev (fun a => !h a) a
    · rfl
    · rw [H _ h1] at hh; cases hh
  · intro H h hh
    have h1 := H (fun a => !h a)
    rw [ea, eb] at h1
    simp only [Bool.not_not] at h1
    cases h2 : ev h b
    · rw [h2] at h1
      have := h1 rfl
      rw [hh] at this; cases this
    · rfl
theorem impl_refl {a : CL.Ex} (ha : CL.valid a = true) : implE a a = true := (implE_iff ha ha).2 fun _ h => h
theorem impl_trans {a b c : CL.Ex} (h1 : implE a b = true) (h2 : implE b c = true) : implE a c = true := by
  have v1 : CL.valid a = true ∧ CL.valid b = true := by simp only [implE, Bool.and_eq_true] at h1; exact h1.1
  have v2 : CL.valid b = true ∧ CL.valid c = true := by simp only [implE, Bool.and_eq_true] at h2; exact h2.1
  rw [implE_iff v1.1 v1.2] at h1
  rw [implE_iff v2.1 v2.2] at h2
  exact (implE_iff v1.1 v2.2).2 fun h hh => h2 h (h1 h hh)
/-- blocking sets are the dual's minimal ones -/
theorem blks_dual (e : CL.Ex) : blksE e = minsE (CL.dualE e) := by
  unfold blksE minsE CL.dualE
  cases hv : CL.valid e
  · simp [CL.noEx_invalid]
  · obtain ⟨h1, h2, _⟩ := CL.dual_valid hv
    rw [if_pos rfl, if_pos rfl, if_pos h1, h2]
    congr 1
    funext s
    exact (dual_holds hv s).symm
end Go.Proofs.Ytmolffigeobnnaa
