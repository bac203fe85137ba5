
/- A cheap check that the operations of a region can be walked in the order of the text: linear in the targets that each operation reads. -/
import Derived.Still
namespace Go.Proofs.Ytklpfhkcbhkofaa
namespace Rc
/-- y waits for the operation k -/
def waits (y : Oper) (k : Nat) : Bool := y.after.any fun e => Region.binds .any e && e.on == k
/-- against the operations of the list, which begin at number i: none writes what y (number k) reads, but one that y waits for, or that waits for y -/
def okR (y : Oper) (k : Nat) (looks : List Tmp) : List Oper → Nat → Bool
  | [], _ => true
  | x :: l, i => (i == k || (match x.dst with | none => true | some d => !looks.contains d || waits y i || waits x k)) && okR y k looks l (i + 1)
def notIn (d : Tmp) : List Oper → Bool
  | [] => true
  | x :: l => (match x.dst with | none => true | some e => !(Nat.beq e d)) && notIn d l
def dstR : List Oper → Bool
  | [] => true
  | x :: l => (match x.dst with | none => true | some d => notIn d l) && dstR l
def allR (ops : Array Oper) (all : List Oper) : List Oper → Nat → Bool
  | [], _ => true
  | y :: l, k => (y.after.all fun e => !Region.binds .any e || Nat.blt e.on k) && okR y k (y.looksAt ops) all 0 && allR ops all l (k + 1)
def lexC (l : List Oper) : Bool := Region.noSelect l.toArray && dstR l && allR l.toArray l l 0
theorem okR_spec {y : Oper} {k : Nat} {looks : List Tmp} : ∀ {l : List Oper} {i : Nat}, okR y k looks l i = true → ∀ j x, l[j]? = some x → i + j ≠ k → ∀ d, x.dst = some d → d ∈ looks → waits y (i + j) = true ∨ waits x k = true
  | [], _, _, j, x, hx, _, _, _, _ => by simp at hx
  | z :: l, i, h, j, x, hx, hne, d, hd, hm => by
    simp only [okR, Bool.and_eq_true] at h
    obtain ⟨h1, h2⟩ := h
    cases j with
    | zero =>
      simp at hx
      subst hx
      simp only [hd, Bool.or_eq_true, beq_iff_eq, Bool.not_eq_true', List.contains_eq_mem, decide_eq_false_iff_not] at h1
      simp only [Nat.add_zero] at hne ⊢
      rcases h1 with h1 | (h1 | h1) | h1
      · exact absurd h1 hne
      · exact absurd hm h1
      · exact .inl h1
      · exact .inr h1
    | succ j =>
      have := okR_spec h2 j x (by simpa using hx) (by omega) d hd hm
      rwa [show i + (j + 1) = i + 1 + j by omega]
theorem notIn_spec {d : Tmp} : ∀ {l : List Oper}, notIn d l = true → ∀ (j : Nat) (x : Oper), l[j]? = some x → x.dst ≠ some d
  | [], _, j, x, hx => by simp at hx
  | z :: l, h, j, x, hx => by
    simp only [notIn, Bool.and_eq_true] at h
    cases j with
    | zero =>
      simp at hx
      subst hx
      intro hd
      simp [hd] at h
    | succ j => exact notIn_spec h.2 j x (by simpa using hx)
theorem dstR_spec : ∀ {l : List Oper}, dstR l = true → ∀ (i j : Nat) (x y : Oper), i < j → l[i]? = some x → l[j]? = some y → ∀ d, x.dst = some d → y.dst ≠ some d
  | [], _, i, j, x, y, _, hx, _, _, _ => by simp at hx
  | z :: l, h, i, j, x, y, hij, hx, hy, d, hd => by
    simp only [dstR, Bool.and_eq_true] at h
    cases j with
    | zero => omega
    | succ j =>
      cases i with
      | zero =>
        simp at hx
        subst hx
        rw [hd] at h
        exact notIn_spec h.1 j y (by simpa using hy)
      | succ i => exact dstR_spec h.2 i j x y (by omega) (by simpa using hx) (by simpa using hy) d hd
theorem allR_spec {ops : Array Oper} {all : List Oper} : ∀ {l : List Oper} {k : Nat}, allR ops all l k = true → ∀ j y, l[j]? = some y → (∀ e ∈ y.after, Region.binds .any e = true → e.on < k + j) ∧ okR y (k + j) (y.looksAt ops) all 0 = true
  | [], _, _, j, y, hy => by simp at hy
  | z :: l, k, h, j, y, hy => by
    simp only [allR, Bool.and_eq_true] at h
    obtain ⟨⟨h1, h2⟩, h3⟩ := h
    cases j with
    | zero =>
      simp at hy
      subst hy
      refine ⟨fun e he hb => ?_, h2⟩
      have := Array.all_eq_true_iff_forall_mem.1 h1 e he
      simp [hb] at this
      exact of_decide_eq_true (by simpa [Nat.blt_eq] using this)
    | succ j =>
      have := allR_spec h3 j y (by simpa using hy)
      rwa [show k + (j + 1) = k + 1 + j by omega]
theorem lexFrom_of {l : List Oper} (hd : dstR l = true) (ha : allR l.toArray l l 0 = true) : ∀ (fuel k : Nat) (listed : Array Bool), k + fuel = l.length → listed.size = l.length → (∀ i, i < l.length → listed[i]? = some (decide (i < k))) → Region.lexFrom .any l.toArray fuel k listed = true
  | 0, k, listed, hk, hs, hL => by
    simp only [Region.lexFrom, List.isEmpty_iff, Region.ready, List.filter_eq_nil_iff, List.mem_range]
    intro i hi
    have hi' : i < l.length := by simpa using hi
    have := hL i hi'
    rw [decide_eq_true (by omega)] at this
    simp [Array.getD_eq_getD_getElem?, this]
  | fuel + 1, k, listed, hk, hs, hL => by
    have hkl : k < l.length := by omega
    have hy : l[k]? = some l[k] := List.getElem?_eq_getElem hkl
    obtain ⟨h1, h2⟩ := allR_spec ha k _ hy
    rw [Nat.zero_add] at h1 h2
    simp only [Region.lexFrom, Bool.and_eq_true]
    refine ⟨⟨?_, ?_⟩, ?_⟩
    · simp only [Region.ready, List.contains_eq_mem, List.mem_filter, List.mem_range, decide_eq_true_eq]
      refine ⟨by simpa using hkl, ?_⟩
      have := hL k hkl
      rw [decide_eq_false (by omega)] at this
      simp only [Array.getD_eq_getD_getElem?, this, Option.getD_some, Bool.not_false, Bool.true_and, List.getElem?_toArray, hy, Option.map_some]
      refine Array.all_eq_true_iff_forall_mem.2 fun e he => ?_
      cases hb : Region.binds .any e
      · simp
      · have he1 := h1 e he hb
        have := hL e.on (by omega)
        rw [decide_eq_true he1] at this
        simp [this]
    · simp only [Region.free, List.getElem?_toArray, hy, List.all_eq_true, List.mem_range, List.size_toArray]
      intro j hj
      have hjy : l[j]? = some l[j] := List.getElem?_eq_getElem hj
      rw [hjy]
      rcases Nat.lt_trichotomy j k with hlt | heq | hgt
      · have := hL j hj
        rw [decide_eq_true hlt] at this
        simp [Array.getD_eq_getD_getElem?, this]
      · simp [heq]
      · simp only [Bool.or_eq_true]
        right
        cases hw : waits l[j] k
        · right
          obtain ⟨_, g2⟩ := allR_spec ha j _ hjy
          rw [Nat.zero_add] at g2
          have a1 : ∀ d, l[k].dst = some d → d ∉ l[j].looksAt l.toArray := fun d hdd hm => by
            rcases okR_spec g2 k _ hy (by omega) d hdd hm with h | h
            · rw [Nat.zero_add, hw] at h; cases h
            · obtain ⟨e, he, hb⟩ := Array.any_eq_true'.1 h
              simp only [Bool.and_eq_true, beq_iff_eq] at hb
              have := h1 e he hb.1
              omega
          have a2 : ∀ d, l[j].dst = some d → d ∉ l[k].looksAt l.toArray := fun d hdd hm => by
            rcases okR_spec h2 j _ hjy (by omega) d hdd hm with h | h
            · rw [Nat.zero_add] at h
              obtain ⟨e, he, hb⟩ := Array.any_eq_true'.1 h
              simp only [Bool.and_eq_true, beq_iff_eq] at hb
              have := h1 e he hb.1
              omega
            · rw [hw] at h; cases h
          have a3 : ∀ d, l[k].dst = some d → l[j].dst ≠ some d := dstR_spec hd k j _ _ hgt hy hjy
          unfold Oper.apart
          cases hk2 : l[k].dst <;> cases hj2 : l[j].dst <;> simp_all
        · left; exact hw
    · refine lexFrom_of hd ha fuel (k + 1) _ (by omega) (by simpa using hs) fun i hi => ?_
      by_cases hik : i = k
      · subst hik; simp [hs, hi]
      · rw [Array.getElem?_setIfInBounds_ne (Ne.symm hik), hL i hi]
        congr 1
        rw [decide_eq_decide]
        omega
theorem lexB_of {l : List Oper} (h : lexC l = true) : Region.lexB .any l.toArray = true := by
  simp only [lexC, Bool.and_eq_true] at h
  simp only [Region.lexB, Bool.and_eq_true]
  refine ⟨h.1.1, ?_⟩
  have := lexFrom_of h.1.2 h.2 l.length 0 (Array.replicate l.length false) (by simp) (by simp) (fun i hi => by simp [hi])
  simpa using this
end Rc
end Go.Proofs.Ytklpfhkcbhkofaa
