
/- Plain facts: sets of atoms as numbers, minimal sets, in order. No program in sight. -/
import Derived.Test.YtmolffigeobnnaaZ11
namespace Go.Proofs.Ytmolffigeobnnaa
open Go.RowKit
set_option linter.unusedVariables false
/-- the set of n atoms that a number writes -/
def bsOf (n b : Nat) : List Bool := (List.range n).map fun i => b.testBit i
/-- the same as a list of indices -/
def lsOf (n b : Nat) : List Int := ((List.range n).filter fun i => b.testBit i).map Int.ofNat
theorem bsOf_len (n b : Nat) : (bsOf n b).length = n := by simp [bsOf]
theorem bsOf_get (n b i : Nat) : (bsOf n b).getD i false = (decide (i < n) && b.testBit i) := by
  simp only [bsOf, List.getD, List.getElem?_map]
  by_cases h : i < n <;> simp [h]
theorem mem_lsOf {n b : Nat} {z : Int} : z ∈ lsOf n b ↔ ∃ i : Nat, i < n ∧ b.testBit i = true ∧ z = i := by
  simp only [lsOf, List.mem_map, List.mem_filter, List.mem_range]
  constructor
  · rintro ⟨i, ⟨h1, h2⟩, rfl⟩; exact ⟨i, h1, h2, rfl⟩
  · rintro ⟨i, h1, h2, rfl⟩; exact ⟨i, ⟨h1, h2⟩, rfl⟩
def numOf : List Bool → Nat
  | [] => 0
  | b :: s => b.toNat + 2 * numOf s
theorem numOf_lt : ∀ s : List Bool, numOf s < 2 ^ s.length
  | [] => by simp [numOf]
  | b :: s => by
    have := numOf_lt s
    have hb : b.toNat ≤ 1 := by cases b <;> simp
    simp only [numOf, List.length_cons, Nat.pow_succ]; omega
theorem numOf_bit : ∀ (s : List Bool) (i : Nat), (numOf s).testBit i = s.getD i false
  | [], i => by simp [numOf]
  | b :: s, 0 => by
    cases b <;> simp [numOf, Nat.testBit_zero]
  | b :: s, i + 1 => by
    have hb : (b.toNat + 2 * numOf s) / 2 = numOf s := by cases b <;> simp <;> omega
    rw [numOf, Nat.testBit_succ, hb, numOf_bit s i]; simp
theorem ext_getD {s t : List Bool} (hl : s.length = t.length) (h : ∀ i, s.getD i false = t.getD i false) : s = t := by
  apply List.ext_getElem hl
  intro i h1 h2
  have := h i
  simpa [List.getD, h1, h2] using this
theorem bsOf_num (s : List Bool) : bsOf s.length (numOf s) = s := by
  apply ext_getD (bsOf_len _ _)
  intro i
  rw [bsOf_get, numOf_bit]
  by_cases h : i < s.length
  · simp [h]
  · simp [h, List.getD]
/-- minimal among the sets of n atoms that have a property -/
def minS (h : List Bool → Bool) (s : List Bool) : Bool := h s && (List.range s.length).all fun i => !(s.getD i false) || !h (s.set i false)
theorem minS_iff {h : List Bool → Bool} {s : List Bool} : minS h s = true ↔ h s = true ∧ ∀ i : Nat, s.getD i false = true → h (s.set i false) = false := by
  simp only [minS, Bool.and_eq_true, List.all_eq_true, List.mem_range, Bool.or_eq_true, Bool.not_eq_true']
  constructor
  · rintro ⟨h1, h2⟩
    refine ⟨h1, fun i hi => ?_⟩
    have hl : i < s.length := by
      rcases Nat.lt_or_ge i s.length with h | h
      · exact h
      · simp [List.getD, List.getElem?_eq_none h] at hi
    rcases h2 i hl with h3 | h3
    · rw [h3] at hi; cases hi
    · exact h3
  · rintro ⟨h1, h2⟩
    refine ⟨h1, fun i hi => ?_⟩
    cases hg : s.getD i false
    · exact .inl rfl
    · exact .inr (h2 i hg)
def rawM (n : Nat) (h : List Bool → Bool) (k : Nat) : List (List Int) := ((List.range k).filter fun b => minS h (bsOf n b)).map (lsOf n)
theorem rawM_succ (n : Nat) (h : List Bool → Bool) (k : Nat) : rawM n h (k + 1) = rawM n h k ++ (if minS h (bsOf n k) = true then [lsOf n k] else []) := by
  simp only [rawM, List.range_succ, List.filter_append, List.map_append]
  congr 1
  by_cases hm : minS h (bsOf n k) = true <;> simp [hm]
/-- the order: shorter ones first, then by the first difference -/
def lxl : List Int → List Int → Bool
  | [], _ => false
  | _ :: _, [] => false
  | x :: a, y :: b => if x = y then lxl a b else decide (x < y)
def slt (a b : List Int) : Bool := if a.length = b.length then lxl a b else decide (a.length < b.length)
theorem lxl_irr : ∀ a : List Int, lxl a a = false
  | [] => rfl
  | x :: a => by simp [lxl, lxl_irr a]
theorem lxl_tri : ∀ a b : List Int, a.length = b.length → lxl a b = false → lxl b a = false → a = b
  | [], [], _, _, _ => rfl
  | x :: a, y :: b, hl, h1, h2 => by
    simp only [lxl] at h1 h2
    by_cases e : x = y
    · subst e
      simp only [if_true] at h1 h2
      rw [lxl_tri a b (by simpa using hl) h1 h2]
    · rw [if_neg e] at h1
      rw [if_neg (Ne.symm e)] at h2
      simp at h1 h2; omega
theorem lxl_tr : ∀ a b c : List Int, a.length = b.length → b.length = c.length → lxl a b = true → lxl b c = true → lxl a c = true
  | [], b, c, _, _, h, _ => by simp [lxl] at h
  | x :: a, [], c, hl, _, _, _ => by simp at hl
  | x :: a, y :: b, [], _, hl, _, _ => by simp at hl
  | x :: a, y :: b, z :: c, l1, l2, h1, h2 => by
    simp only [lxl] at h1 h2 ⊢
    by_cases e1 : x = y
    · subst e1
      rw [if_pos rfl] at h1
      by_cases e2 : x = z
      · subst e2
        rw [if_pos rfl] at h2 ⊢
        exact lxl_tr a b c (by simpa using l1) (by simpa using l2) h1 h2
      · rw [if_neg e2] at h2 ⊢; exact h2
    · rw [if_neg e1] at h1
      simp only [decide_eq_true_eq] at h1
      by_cases e2 : y = z
      · subst e2
        rw [if_neg e1]; simpa using h1
      · rw [if_neg e2] at h2
        simp only [decide_eq_true_eq] at h2
        rw [if_neg (by omega)]; simp; omega
theorem lxl_asym {a b : List Int} (hl : a.length = b.length) (h : lxl a b = true) : lxl b a = false := by
  cases hb : lxl b a
  · rfl
  · have := lxl_tr a b a hl hl.symm h hb
    rw [lxl_irr] at this; cases this
theorem slt_irr (a : List Int) : slt a a = false := by simp [slt, lxl_irr]
theorem slt_tri {a b : List Int} (h1 : slt a b = false) (h2 : slt b a = false) : a = b := by
  unfold slt at h1 h2
  by_cases e : a.length = b.length
  · rw [if_pos e] at h1; rw [if_pos e.symm] at h2; exact lxl_tri a b e h1 h2
  · rw [if_neg e] at h1; rw [if_neg (Ne.symm e)] at h2; simp at h1 h2; omega
theorem slt_tr {a b c : List Int} (h1 : slt a b = true) (h2 : slt b c = true) : slt a c = true := by
  unfold slt at *
  by_cases e1 : a.length = b.length
  · rw [if_pos e1] at h1
    by_cases e2 : b.length = c.length
    · rw [if_pos e2] at h2; rw [if_pos (by omega)]; exact lxl_tr a b c e1 e2 h1 h2
    · rw [if_neg e2] at h2; simp only [decide_eq_true_eq] at h2; rw [if_neg (by omega)]; simp; omega
  · rw [if_neg e1] at h1
    simp only [decide_eq_true_eq] at h1
    by_cases e2 : b.length = c.length
    · rw [if_neg (by omega)]; simp; omega
    · rw [if_neg e2] at h2; simp only [decide_eq_true_eq] at h2; rw [if_neg (by omega)]; simp; omega
theorem slt_asym {a b : List Int} (h : slt a b = true) : slt b a = false := by
  cases hb : slt b a
  · rfl
  · have := slt_tr h hb
    rw [slt_irr] at this; cases this
theorem slt_ntr {a b c : List Int} (h1 : slt b a = false) (h2 : slt c b = false) : slt c a = false := by
  cases h : slt c a
  · rfl
  · cases h3 : slt a b
    · have := slt_tri h3 h1
      subst this
      rw [h2] at h; cases h
    · have := slt_tr h h3
      rw [h2] at this; cases this
/-- in order -/
def Asc (l : List (List Int)) : Prop := l.Pairwise fun a b => slt b a = false
def srt (l : List (List Int)) : List (List Int) := l.mergeSort fun a b => !slt b a
theorem asc_perm : ∀ {l m : List (List Int)}, Asc l → Asc m → l.Perm m → l = m
  | [], m, _, _, h => (List.nil_perm.1 h).symm
  | a :: l, [], _, _, h => by simp at h
  | a :: l, b :: m, ha, hb, h => by
    have hab : a = b := by
      have h1 : a ∈ b :: m := h.subset (by simp)
      have h2 : b ∈ a :: l := h.symm.subset (by simp)
      rcases List.mem_cons.1 h1 with e | h1
      · exact e
      · rcases List.mem_cons.1 h2 with e | h2
        · exact e.symm
        · exact slt_tri ((List.pairwise_cons.1 hb).1 a h1 |> fun h => h) ((List.pairwise_cons.1 ha).1 b h2) 
    subst hab
    rw [asc_perm (List.pairwise_cons.1 ha).2 (List.pairwise_cons.1 hb).2 ((List.perm_cons a).1 h)]
theorem srt_asc (l : List (List Int)) : Asc (srt l) := by
  have := List.pairwise_mergeSort (le := fun a b : List Int => !slt b a) (fun a b c h1 h2 => by
    simp only [Bool.not_eq_true'] at *
    exact slt_ntr h1 h2) (fun a b => by
      cases h1 : slt b a
      · simp
      · simp [slt_asym h1]) l
  exact this.imp fun h => by simpa using h
theorem srt_perm (l : List (List Int)) : (srt l).Perm l := List.mergeSort_perm _ _
theorem asc_srt {l m : List (List Int)} (h : Asc l) (hp : l.Perm m) : l = srt m := asc_perm h (srt_asc m) (hp.trans (srt_perm m).symm)
/-- the minimal sets, in order -/
def minsN (n : Nat) (h : List Bool → Bool) : List (List Int) := srt (rawM n h (2 ^ n))
theorem mem_minsN {n : Nat} {h : List Bool → Bool} {l : List Int} : l ∈ minsN n h ↔ ∃ b, b < 2 ^ n ∧ minS h (bsOf n b) = true ∧ l = lsOf n b := by
  rw [minsN, (srt_perm _).mem_iff]
  simp only [rawM, List.mem_map, List.mem_filter, List.mem_range]
  constructor
  · rintro ⟨b, ⟨h1, h2⟩, rfl⟩; exact ⟨b, h1, h2, rfl⟩
  · rintro ⟨b, h1, h2, rfl⟩; exact ⟨b, ⟨h1, h2⟩, rfl⟩
/-- below every set that has a property there is a minimal one -/
theorem below_min {h : List Bool → Bool} : ∀ (k : Nat) (s : List Bool), s.count true ≤ k → h s = true → ∃ t, t.length = s.length ∧ Sub t s ∧ minS h t = true := by
  intro k
  induction k with
  | zero =>
    intro s hk hs
    refine ⟨s, rfl, Sub.rf s, minS_iff.2 ⟨hs, fun i hi => ?_⟩⟩
    have hl : i < s.length := by
      rcases Nat.lt_or_ge i s.length with h | h
      · exact h
      · simp [List.getD, List.getElem?_eq_none h] at hi
    have : true ∈ s := by
      rw [show true = s[i] by simpa [List.getD, hl] using hi.symm]; exact List.getElem_mem _
    have := List.count_pos_iff.2 this
    omega
  | succ k ih =>
    intro s hk hs
    by_cases hm : minS h s = true
    · exact ⟨s, rfl, Sub.rf s, hm⟩
    · have : ∃ i, s.getD i false = true ∧ h (s.set i false) = true := by
        refine Classical.byContradiction fun hn => hm (minS_iff.2 ⟨hs, fun i hi => ?_⟩)
        cases hc : h (s.set i false)
        · rfl
        · exact absurd ⟨i, hi, hc⟩ hn
      obtain ⟨i, hi, hc⟩ := this
      have hl : i < s.length := by
        rcases Nat.lt_or_ge i s.length with h | h
        · exact h
        · simp [List.getD, List.getElem?_eq_none h] at hi
      have hi' : s[i] = true := by simpa [List.getD, hl] using hi
      have hcnt : (s.set i false).count true + 1 = s.count true := by
        have := List.count_set (a := false) (b := true) (l := s) (i := i) hl
        have hp : 0 < s.count true := List.count_pos_iff.2 (by rw [← hi']; exact List.getElem_mem _)
        simp [hi'] at this; omega
      obtain ⟨t, h1, h2, h3⟩ := ih (s.set i false) (by omega) hc
      exact ⟨t, by simpa using h1, h2.tr (Sub.drop1 s i), h3⟩
/-- a list of indices lies in a set -/
def inS (s : List Bool) (l : List Int) : Bool := l.all fun z => decide (0 ≤ z) && s.getD z.toNat false
theorem inS_lsOf {n b : Nat} {s : List Bool} : inS s (lsOf n b) = true ↔ Sub (bsOf n b) s := by
  simp only [inS, List.all_eq_true, Bool.and_eq_true, decide_eq_true_eq]
  constructor
  · intro h i hi
    rw [bsOf_get] at hi
    simp only [Bool.and_eq_true, decide_eq_true_eq] at hi
    have := (h i (mem_lsOf.2 ⟨i, hi.1, hi.2, rfl⟩)).2
    simpa using this
  · intro h z hz
    obtain ⟨i, h1, h2, rfl⟩ := mem_lsOf.1 hz
    refine ⟨by omega, ?_⟩
    have := h i (by rw [bsOf_get]; simp [h1, h2])
    simpa using this
/-- a set has a property that more atoms keep exactly if a minimal set lies in it -/
theorem covers_iff {n : Nat} {h : List Bool → Bool} (hm : ∀ s t, s.length = n → t.length = n → Sub s t → h s = true → h t = true) {s : List Bool} (hs : s.length = n) :
    (minsN n h).any (inS s) = h s := by
  rw [Bool.eq_iff_iff, List.any_eq_true]
  constructor
  · rintro ⟨l, hl, hin⟩
    obtain ⟨b, hb, hmin, rfl⟩ := mem_minsN.1 hl
    exact hm _ _ (bsOf_len n b) hs (inS_lsOf.1 hin) (minS_iff.1 hmin).1
  · intro hh
    obtain ⟨t, h1, h2, h3⟩ := below_min (h := h) _ s (Nat.le_refl _) hh
    refine ⟨lsOf n (numOf t), mem_minsN.2 ⟨numOf t, ?_, ?_, rfl⟩, ?_⟩
    · have := numOf_lt t; rwa [h1, hs] at this
    · rw [← hs, ← h1, bsOf_num]; exact h3
    · rw [← hs, ← h1, inS_lsOf, bsOf_num]; exact h2
end Go.Proofs.Ytmolffigeobnnaa
