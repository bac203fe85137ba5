
/- Plain facts on lock modes: which are compatible, which cover which, the least upper bound, their names. No program in sight. -/
import Init
namespace CL
def vld (m : Int) : Bool := decide (1 ≤ m ∧ m ≤ 5)
def cov (a b : Int) : Bool := vld a && vld b && (a == b || a == 5 || b == 1 || a == 4 && b != 5)
def cmp (a b : Int) : Bool := vld a && vld b && (a != 5 && b != 5 && (a == 1 || b == 1 || a == b && a != 4))
def both (k a b : Int) : Bool := cov k a && cov k b
def sup (a b : Int) : Int := if both 1 a b then 1 else if both 2 a b then 2 else if both 3 a b then 3 else if both 4 a b then 4 else if both 5 a b then 5 else 0
def nm (m : Int) : List UInt8 := if m = 1 then [73, 83] else if m = 2 then [73, 88] else if m = 3 then [83] else if m = 4 then [83, 73, 88] else if m = 5 then [88] else []
def prs (s : List UInt8) : Int := if s = [73, 83] then 1 else if s = [73, 88] then 2 else if s = [83] then 3 else if s = [83, 73, 88] then 4 else if s = [88] then 5 else 0

theorem vld_cases {m : Int} (h : vld m = true) : m = 1 ∨ m = 2 ∨ m = 3 ∨ m = 4 ∨ m = 5 := by simp [vld] at h; omega
theorem vld_t {m : Int} (h1 : 1 ≤ m) (h2 : m ≤ 5) : vld m = true := by simp [vld, h1, h2]
theorem vld_f {m : Int} (h : m < 1 ∨ 5 < m) : vld m = false := by simp [vld]; omega
theorem vld_iff {m : Int} : vld m = true ↔ 1 ≤ m ∧ m ≤ 5 := by simp [vld]
theorem cov_vl {a b : Int} (h : cov a b = true) : vld a = true := by simp [cov] at h; exact h.1.1
theorem cov_vr {a b : Int} (h : cov a b = true) : vld b = true := by simp [cov] at h; exact h.1.2
theorem cmp_vl {a b : Int} (h : cmp a b = true) : vld a = true := by simp [cmp] at h; exact h.1.1
theorem cmp_vr {a b : Int} (h : cmp a b = true) : vld b = true := by simp [cmp] at h; exact h.1.2
theorem cov_nl {a b : Int} (h : vld a = false) : cov a b = false := by simp [cov, h]
theorem cov_nr {a b : Int} (h : vld b = false) : cov a b = false := by simp [cov, h]
theorem cmp_nl {a b : Int} (h : vld a = false) : cmp a b = false := by simp [cmp, h]
theorem cmp_nr {a b : Int} (h : vld b = false) : cmp a b = false := by simp [cmp, h]

/-- what holds of the five modes holds of every mode -/
theorem all1 {p : Int → Prop} (h : p 1 ∧ p 2 ∧ p 3 ∧ p 4 ∧ p 5) {m : Int} (hm : vld m = true) : p m := by
  rcases vld_cases hm with rfl | rfl | rfl | rfl | rfl <;> simp [h]
theorem by1 {p : Int → Bool} (h : (p 1 && p 2 && p 3 && p 4 && p 5) = true) {m : Int} (hm : vld m = true) : p m = true := by
  simp at h; rcases vld_cases hm with rfl | rfl | rfl | rfl | rfl <;> simp [h]
def q1 (p : Int → Bool) : Bool := p 1 && p 2 && p 3 && p 4 && p 5
theorem by2 {p : Int → Int → Bool} (h : q1 (fun a => q1 (p a)) = true) {a b : Int} (ha : vld a = true) (hb : vld b = true) : p a b = true :=
  by1 (p := p a) (by1 (p := fun a => q1 (p a)) h ha) hb
theorem by3 {p : Int → Int → Int → Bool} (h : q1 (fun a => q1 (fun b => q1 (p a b))) = true) {a b c : Int} (ha : vld a = true) (hb : vld b = true) (hc : vld c = true) : p a b c = true :=
  by1 (p := p a b) (by2 (p := fun a b => q1 (p a b)) h ha hb) hc

theorem cmp_comm (a b : Int) : cmp a b = cmp b a := by
  by_cases ha : vld a = true
  · by_cases hb : vld b = true
    · exact of_decide_eq_true (by2 (p := fun a b => decide (cmp a b = cmp b a)) (by decide) ha hb)
    · simp at hb; rw [cmp_nr hb, cmp_nl hb]
  · simp at ha; rw [cmp_nr ha, cmp_nl ha]
theorem cov_self (a : Int) : cov a a = vld a := by simp [cov]
theorem cov_anti {a b : Int} (h : cov a b = true) (h' : cov b a = true) : a = b := by
  have := by2 (p := fun a b => !(cov a b && cov b a) || decide (a = b)) (by decide) (cov_vl h) (cov_vr h)
  simpa [h, h'] using this
theorem cov_trans {a b c : Int} (h : cov a b = true) (h' : cov b c = true) : cov a c = true := by
  have := by3 (p := fun a b c => !(cov a b && cov b c) || cov a c) (by decide) (cov_vl h) (cov_vr h) (cov_vr h')
  simpa [h, h'] using this
theorem cov_weak {a b c : Int} (h : cov a b = true) (h' : cmp a c = true) : cmp b c = true := by
  have := by3 (p := fun a b c => !(cov a b && cmp a c) || cmp b c) (by decide) (cov_vl h) (cov_vr h) (cmp_vr h')
  simpa [h, h'] using this
theorem both_nl {k a b : Int} (h : vld a = false) : both k a b = false := by simp [both, cov_nr h]
theorem both_nr {k a b : Int} (h : vld b = false) : both k a b = false := by simp [both, cov_nr h]
theorem sup_nl {a b : Int} (h : vld a = false) : sup a b = 0 := by simp [sup, both_nl h]
theorem sup_nr {a b : Int} (h : vld b = false) : sup a b = 0 := by simp [sup, both_nr h]
theorem both_comm (k a b : Int) : both k a b = both k b a := by unfold both; rw [Bool.and_comm]
theorem sup_comm (a b : Int) : sup a b = sup b a := by
  unfold sup; simp only [both_comm _ a b]
theorem sup_vld {a b : Int} (ha : vld a = true) (hb : vld b = true) : vld (sup a b) = true :=
  by2 (p := fun a b => vld (sup a b)) (by decide) ha hb
theorem sup_l {a b : Int} (ha : vld a = true) (hb : vld b = true) : cov (sup a b) a = true :=
  by2 (p := fun a b => cov (sup a b) a) (by decide) ha hb
theorem sup_r {a b : Int} (ha : vld a = true) (hb : vld b = true) : cov (sup a b) b = true := by rw [sup_comm]; exact sup_l hb ha
theorem sup_least {a b c : Int} (h : cov c a = true) (h' : cov c b = true) : cov c (sup a b) = true := by
  have := by3 (p := fun a b c => !(cov c a && cov c b) || cov c (sup a b)) (by decide) (cov_vr h) (cov_vr h') (cov_vl h)
  simpa [h, h'] using this
theorem sup_nz {a b : Int} (h : sup a b ≠ 0) : vld a = true ∧ vld b = true := by
  refine ⟨?_, ?_⟩
  · by_cases ha : vld a = true
    · exact ha
    · simp at ha; exact absurd (sup_nl ha) h
  · by_cases hb : vld b = true
    · exact hb
    · simp at hb; exact absurd (sup_nr hb) h
theorem vld_zero : vld 0 = false := by decide
theorem sup_assoc (a b c : Int) : sup (sup a b) c = sup a (sup b c) := by
  by_cases ha : vld a = true
  · by_cases hb : vld b = true
    · by_cases hc : vld c = true
      · exact of_decide_eq_true (by3 (p := fun a b c => decide (sup (sup a b) c = sup a (sup b c))) (by decide) ha hb hc)
      · simp at hc; rw [sup_nr hc, sup_nr hc, sup_nr vld_zero]
    · simp at hb; rw [sup_nr hb, sup_nl hb, sup_nl vld_zero, sup_nr vld_zero]
  · simp at ha; rw [sup_nl ha, sup_nl vld_zero, sup_nl ha]
theorem sup_self {a : Int} (h : vld a = true) : sup a a = a := of_decide_eq_true (by1 (p := fun a => decide (sup a a = a)) (by decide) h)
theorem sup_cmp {a b m : Int} (ha : vld a = true) (hb : vld b = true) : cmp m (sup a b) = (cmp m a && cmp m b) := by
  by_cases hm : vld m = true
  · exact of_decide_eq_true (by3 (p := fun a b m => decide (cmp m (sup a b) = (cmp m a && cmp m b))) (by decide) ha hb hm)
  · simp at hm; rw [cmp_nl hm, cmp_nl hm, cmp_nl hm]; rfl
/-- how a loop over the modes finds it -/
theorem sup_found {a b k : Int} (h1 : 1 ≤ k) (h2 : k ≤ 5) (hb : ∀ j, 1 ≤ j → j < k → both j a b = false) (h : both k a b = true) : sup a b = k := by
  have hk := vld_cases (vld_t h1 h2)
  rcases hk with rfl | rfl | rfl | rfl | rfl <;> simp only [sup, h, if_true]
  · simp [hb 1 (by omega) (by omega)]
  · simp [hb 1 (by omega) (by omega), hb 2 (by omega) (by omega)]
  · simp [hb 1 (by omega) (by omega), hb 2 (by omega) (by omega), hb 3 (by omega) (by omega)]
  · simp [hb 1 (by omega) (by omega), hb 2 (by omega) (by omega), hb 3 (by omega) (by omega), hb 4 (by omega) (by omega)]
theorem sup_none {a b k : Int} (h2 : 5 < k) (hb : ∀ j, 1 ≤ j → j < k → both j a b = false) : sup a b = 0 := by
  simp [sup, hb 1 (by omega) (by omega), hb 2 (by omega) (by omega), hb 3 (by omega) (by omega), hb 4 (by omega) (by omega), hb 5 (by omega) (by omega)]
theorem none_step {p : Int → Bool} {k : Int} (hb : ∀ j, 1 ≤ j → j < k → p j = false) (h : p k = false) : ∀ j, 1 ≤ j → j < k + 1 → p j = false := by
  intro j h1 h2
  by_cases e : j = k
  · subst e; exact h
  · exact hb j h1 (by omega)

theorem nm_inj {a b : Int} (ha : vld a = true) (hb : vld b = true) (h : nm a = nm b) : a = b := by
  have := by2 (p := fun a b => !(decide (nm a = nm b)) || decide (a = b)) (by decide) ha hb
  simpa [h] using this
theorem prs_nm {m : Int} (h : vld m = true) : prs (nm m) = m := of_decide_eq_true (by1 (p := fun a => decide (prs (nm a) = a)) (by decide) h)
theorem nm_bad {m : Int} (h : vld m = false) : nm m = [] := by
  simp [vld] at h
  simp only [nm]
  rw [if_neg (by omega), if_neg (by omega), if_neg (by omega), if_neg (by omega), if_neg (by omega)]
theorem prs_found {s : List UInt8} {k : Int} (h1 : 1 ≤ k) (h2 : k ≤ 5) (h : nm k = s) : prs s = k := by
  subst h; exact prs_nm (vld_t h1 h2)
theorem nm_prs {s : List UInt8} (h : prs s ≠ 0) : nm (prs s) = s ∧ vld (prs s) = true := by
  unfold prs at h ⊢
  split
  · subst_vars; decide
  split
  · subst_vars; decide
  split
  · subst_vars; decide
  split
  · subst_vars; decide
  split
  · subst_vars; decide
  · exact absurd (by simp_all) h
theorem prs_none {s : List UInt8} {k : Int} (h2 : 5 < k) (hb : ∀ j, 1 ≤ j → j < k → (nm j == s) = false) : prs s = 0 := by
  by_cases e : prs s = 0
  · exact e
  · obtain ⟨h, hv⟩ := nm_prs e
    have := vld_iff.1 hv
    have := hb (prs s) (by omega) (by omega)
    simp [h] at this
theorem prs_nil : prs [] = 0 := by decide

/-- the weakest mode that covers all of a list; 0 if one of them is no mode -/
def grp : List Int → Int
  | [] => 0
  | a :: l => l.foldl sup (sup a a)
theorem foldl_bad : ∀ (l : List Int) (r : Int), vld r = false → l.foldl sup (sup r r) = 0
  | [], r, h => by simp [sup_nl h]
  | a :: l, r, h => by
    simp only [List.foldl_cons]
    rw [sup_nl h, sup_nl vld_zero]
    have := foldl_bad l 0 vld_zero
    rwa [sup_nl vld_zero] at this
theorem foldl_zero (l : List Int) : l.foldl sup 0 = 0 := by
  have := foldl_bad l 0 vld_zero
  rwa [sup_nl vld_zero] at this
theorem grp_bad : ∀ (l r : List Int) (z : Int), vld z = false → grp (l ++ z :: r) = 0
  | [], r, z, h => by simpa [grp] using foldl_bad r z h
  | a :: l, r, z, h => by
    simp only [List.cons_append, grp, List.foldl_append, List.foldl_cons]
    rw [sup_nr h, foldl_zero]
end CL
