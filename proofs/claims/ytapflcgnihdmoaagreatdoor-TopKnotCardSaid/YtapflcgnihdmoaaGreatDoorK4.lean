/- The knots' entries. -/
import Derived.Test.YtapflcgnihdmoaaGreatDoorK3
namespace X
open Go Go.Proofs Go.RowKit
set_option linter.unusedVariables false
set_option linter.unusedSectionVars false
set_option maxRecDepth 100000
def okA (l59 l93 : List Q4) (l108 : List (Nat × Nat)) : Bool := l93.all (ok93 ps93) && l59.all ps59.elem && l108.all ps108.elem
def okE (n k : Nat) (l : List (Bool × Nat)) : Bool := l.all fun p => ps94.elem (n, p.2) && (pc94 (n, p.2)).elem (p.1, k)
theorem chk113 : (ps59.all fun p => (pc59 p).all fun q => (t113i q).all (ok93 ps93)) = true := by kernel_rfl
def mkT (n : Nat) (k : Tr) (l59 l93 : List Q4) (l108 : List (Nat × Nat)) (l : List (Bool × Nat)) : Tbs := { t108 := l108.map r108, t59 := (l59.flatMap pc59).map r59, t94 := l.map (fun p => e94 n p.1 k p.2), t93 := l93.map v93, t122 := l.map (fun p => e122 n p.1 k p.2), t140 := l.map (fun p => e140 n p.1 k p.2), t170 := l.map (fun p => e170 n p.1 k p.2) }
section
variable [Luck]
theorem E93 (hS : Start S0) (q : Q4) (h : ok93 ps93 q = true) : Ent Tryz.prog 93 (v93 q).1 (v93 q).2 := entX snd93 (lB_ok hS tb0) hS (ok93_mem (P := fun q => run93 q = true) (fun p hp => allB_map (R93 p hp)) h)
theorem E113 (hS : Start S0) (q : Q4) (h : ok93 ps93 q = true) : Ent Tryz.prog 113 (p113 q).1 (p113 q).2 := entX snd113 (l1_ok hS tb0) hS (ok93_mem (P := fun q => run113 q = true) (fun p hp => allB_map (R113 p hp)) h)
theorem E59 (hS : Start S0) (p : Q4) (hp : ps59.elem p = true) (q : Q5) (hq : q ∈ pc59 p) : Ent Tryz.prog 59 (r59 q).1 (r59 q).2 := by
  have hp := List.mem_of_elem_eq_true hp
  have h1 := List.all_eq_true.1 (List.all_eq_true.1 chk113 p hp) q hq
  exact entX snd59 (upT_ok (l1_ok hS tb0) (entL_all (E113 hS) h1) snd113) hS (allB_map (R59 p hp) q hq)
theorem E94 (hS : Start S0) {n i k : Nat} {m : Bool} (h : (ps94.elem (n, i) && (pc94 (n, i)).elem (m, k)) = true) :
    Ent Tryz.prog 94 (e94 n m (kI k) i).1 (e94 n m (kI k) i).2 ∧ Ent Tryz.prog 122 (e122 n m (kI k) i).1 (e122 n m (kI k) i).2 ∧ Ent Tryz.prog 140 (e140 n m (kI k) i).1 (e140 n m (kI k) i).2 ∧ Ent Tryz.prog 170 (e170 n m (kI k) i).1 (e170 n m (kI k) i).2 := by
  rw [Bool.and_eq_true] at h
  have h1 := allB_map (R94 (n, i) (List.mem_of_elem_eq_true h.1)) (m, k) (List.mem_of_elem_eq_true h.2)
  unfold run94 at h1
  simp only [Bool.and_eq_true] at h1
  exact ⟨entX snd94 (m1_ok hS) hS h1.1.1.1, entX snd122 (m1_ok hS) hS h1.1.1.2, entX snd140 (m1_ok hS) hS h1.1.2, entX snd170 (m1_ok hS) hS h1.2⟩
theorem E108 (hS : Start S0) (p : Nat × Nat) (h : ps108.elem p = true) : Ent Tryz.prog 108 (r108 p).1 (r108 p).2 := entX snd108 (m1_ok hS) hS (R108 p (List.mem_of_elem_eq_true h))
theorem mkT_ok (hS : Start S0) {n : Nat} {k : Tr} {l59 l93 : List Q4} {l108 : List (Nat × Nat)} {l : List (Bool × Nat)} (hA : okA l59 l93 l108 = true)
    (hE : ∀ p ∈ l, Ent Tryz.prog 94 (e94 n p.1 k p.2).1 (e94 n p.1 k p.2).2 ∧ Ent Tryz.prog 122 (e122 n p.1 k p.2).1 (e122 n p.1 k p.2).2 ∧ Ent Tryz.prog 140 (e140 n p.1 k p.2).1 (e140 n p.1 k p.2).2 ∧ Ent Tryz.prog 170 (e170 n p.1 k p.2).1 (e170 n p.1 k p.2).2) : TbOk (mkT n k l59 l93 l108 l) := by
  unfold okA at hA
  simp only [Bool.and_eq_true] at hA
  obtain ⟨⟨h1, h2⟩, h3⟩ := hA
  refine ⟨entL_nil _, entL_nil _, entL_nil _, entL_nil _, entL_nil _, entL_all (E108 hS) h3, entL_nil _, entL_map fun q hq => ?_, entL_map fun p hp => (hE p hp).1, entL_all (E93 hS) h1, entL_map fun p hp => (hE p hp).2.1, entL_map fun p hp => (hE p hp).2.2.1, entL_map fun p hp => (hE p hp).2.2.2, entL_nil _, entL_nil _, entL_nil _⟩
  obtain ⟨p, hp, hq⟩ := List.mem_flatMap.1 hq
  exact E59 hS p (List.all_eq_true.1 h2 p hp) q hq
theorem E94L (hS : Start S0) {n k : Nat} {l : List (Bool × Nat)} (h : okE n k l = true) : ∀ p ∈ l, Ent Tryz.prog 94 (e94 n p.1 (kI k) p.2).1 (e94 n p.1 (kI k) p.2).2 ∧ Ent Tryz.prog 122 (e122 n p.1 (kI k) p.2).1 (e122 n p.1 (kI k) p.2).2 ∧ Ent Tryz.prog 140 (e140 n p.1 (kI k) p.2).1 (e140 n p.1 (kI k) p.2).2 ∧ Ent Tryz.prog 170 (e170 n p.1 (kI k) p.2).1 (e170 n p.1 (kI k) p.2).2 := fun p hp => E94 hS (List.all_eq_true.1 h p hp)
end
theorem E94Y (L : Luck) (hS : Start S0) {n k : Nat} {l : List (Bool × Nat)} (h : okE n k l = true) : ∀ p ∈ l, @Ent ⟨.ofNat k, L.tab⟩ Tryz.prog 94 (e94 n p.1 .y p.2).1 (e94 n p.1 .y p.2).2 ∧ @Ent ⟨.ofNat k, L.tab⟩ Tryz.prog 122 (e122 n p.1 .y p.2).1 (e122 n p.1 .y p.2).2 ∧ @Ent ⟨.ofNat k, L.tab⟩ Tryz.prog 140 (e140 n p.1 .y p.2).1 (e140 n p.1 .y p.2).2 ∧ @Ent ⟨.ofNat k, L.tab⟩ Tryz.prog 170 (e170 n p.1 .y p.2).1 (e170 n p.1 .y p.2).2 := fun p hp => by
  obtain ⟨h1, h2, h3, h4⟩ := E94L hS h p hp
  exact ⟨ent_sb' L _ (sb_94 k n p.2 p.1) h1, ent_sb' L _ (sb_122 k n p.2 p.1) h2, ent_sb' L _ (sb_140 k n p.2 p.1) h3, ent_sb' L _ (sb_170 k n p.2 p.1) h4⟩
/-! central.Do -/
theorem chkY : (psT.all fun p => okA (t59p p.1 p.2 none) (t93i p.1 p.2 none) (t108i p.1 none)) = true := by kernel_rfl
theorem chkYE : (psK.all fun p => okE p.1 p.2.1 (tEi p.2.2 none)) = true := by kernel_rfl
theorem chkL : (psL.all fun p => okA (t59p p.1 p.2.2 (some p.2.1)) (t93i p.1 p.2.2 (some p.2.1)) (t108i p.1 (some p.2.1)) && okE p.1 1 (tEi p.2.2 (some p.2.1))) = true := by kernel_rfl
section
variable [L : Luck]
theorem DY (hS : Start S0) {n k i : Nat} (hS' : @Start ⟨.ofNat k, L.tab⟩ S0) (hT : psT.elem (n, i) = true) (hK : psK.elem (n, k, i) = true) : Ent Tryz.prog 22 (sbE (.ofNat k) (entKB n .y i none)).1 (sbE (.ofNat k) (entKB n .y i none)).2 := by
  have hT := List.mem_of_elem_eq_true hT
  have hK := List.mem_of_elem_eq_true hK
  have ht : @TbOk ⟨.ofNat k, L.tab⟩ (tbsK n .y i none) := @mkT_ok ⟨.ofNat k, L.tab⟩ hS' n .y _ _ _ _ (List.all_eq_true.1 chkY (n, i) hT) (E94Y L hS (List.all_eq_true.1 chkYE (n, k, i) hK))
  have h1 := @entX ⟨.ofNat k, L.tab⟩ 22 h22 (fun {c m} a b => @snd22 ⟨.ofNat k, L.tab⟩ c m a b) _ (@lE_ok ⟨.ofNat k, L.tab⟩ hS' _ ht) hS' _ (allB_one (RY (n, i) hT))
  exact (ent_sb L (.ofNat k)).1 h1
theorem DL (hS : Start S0) {n l i : Nat} (hT : psL.elem (n, l, i) = true) : Ent Tryz.prog 22 (entKB n (kI 1) i (some l)).1 (entKB n (kI 1) i (some l)).2 := by
  have hT := List.mem_of_elem_eq_true hT
  have hc := List.all_eq_true.1 chkL _ hT
  rw [Bool.and_eq_true] at hc
  have ht : TbOk (tbsK n (kI 1) i (some l)) := mkT_ok hS hc.1 (E94L hS hc.2)
  exact entX snd22 (lE_ok hS ht) hS (allB_one (RL (n, l, i) hT))
theorem DO (hS : Start S0) {n i : Nat} (hT : psT.elem (n, i) = true) : Ent Tryz.prog 22 (entKO n i).1 (entKO n i).2 := entX snd22 (m1_ok hS) hS (allB_one (RO (n, i) (List.mem_of_elem_eq_true hT)))
theorem DA (hS : Start S0) {n i : Nat} (hT : psT.elem (n, i) = true) : Ent Tryz.prog 22 (entKA n i).1 (entKA n i).2 := entX snd22 (m1_ok hS) hS (allB_one (RA (n, i) (List.mem_of_elem_eq_true hT)))
end
end X
