
/- Plain facts on expressions: nodes, levels, atoms, which expressions are valid, for which sets one holds. No program in sight. -/
import Derived.Test.YtklpfhkcbhkofaaAm
import Derived.Test.YtklpfhkcbhkofaaLx
namespace CL
structure At where
  n : List UInt8
  a : Am
deriving DecidableEq
inductive Ex where
  | mk (k : Int) (a : At) (kids : List Ex)
namespace Ex
def k : Ex → Int | .mk k _ _ => k
def at' : Ex → At | .mk _ a _ => a
def kids : Ex → List Ex | .mk _ _ l => l
end Ex
/-- induction over an expression, its kids at hand -/
theorem Ex.ind {p : Ex → Prop} (h : ∀ k a l, (∀ e ∈ l, p e) → p (.mk k a l)) : ∀ e, p e :=
  fun e => Ex.rec (motive_1 := p) (motive_2 := fun l => ∀ e ∈ l, p e) (fun k a l ih => h k a l ih) (by simp) (fun e l h1 h2 x hx => by
    rcases List.mem_cons.1 hx with rfl | hx
    · exact h1
    · exact h2 x hx) e
mutual
def size : Ex → Nat | .mk _ _ l => 1 + sizeL l
def sizeL : List Ex → Nat
  | [] => 0
  | e :: l => size e + sizeL l
end
mutual
def depth : Ex → Nat | .mk _ _ l => depthL l + 1
def depthL : List Ex → Nat
  | [] => 0
  | e :: l => max (depth e) (depthL l)
end
/- the program's count: (depth or 0, nodes) -/
mutual
def meas : Ex → Nat → Nat → Nat × Nat
  | .mk _ _ l, lv, n => if 4 < lv ∨ 24 < n + 1 then (0, n + 1) else measL l (lv + 1) (n + 1) 0
def measL : List Ex → Nat → Nat → Nat → Nat × Nat
  | [], _, n, d => (d + 1, n)
  | e :: l, lv, n, d => if (meas e lv n).1 = 0 then (0, (meas e lv n).2) else measL l lv (meas e lv n).2 (max d (meas e lv n).1)
end
/- the reference's count: (nodes, depth), more than 24 nodes where it is too great -/
mutual
def rsz : Ex → Nat → Nat × Nat
  | .mk _ _ l, dp => if 4 < dp ∨ 24 < l.length then (25, 0) else rszL l (dp + 1) 1 0
def rszL : List Ex → Nat → Nat → Nat → Nat × Nat
  | [], _, n, d => (n, d + 1)
  | e :: l, dp, n, d => if 24 < n + (rsz e dp).1 then (25, 0) else rszL l dp (n + (rsz e dp).1) (max d (rsz e dp).2)
end
theorem size_pos (e : Ex) : 1 ≤ size e := by cases e; simp [size]
theorem depth_pos (e : Ex) : 1 ≤ depth e := by cases e; simp [depth]
theorem len_sizeL : ∀ l : List Ex, l.length ≤ sizeL l
  | [] => by simp [sizeL]
  | e :: l => by have := len_sizeL l; have := size_pos e; simp [sizeL]; omega
theorem meas_spec (e : Ex) : ∀ lv n, (depth e + lv ≤ 5 ∧ n + size e ≤ 24 → meas e lv n = (depth e, n + size e)) ∧ (¬ (depth e + lv ≤ 5 ∧ n + size e ≤ 24) → (meas e lv n).1 = 0) := by
  induction e using Ex.ind with
  | h k a l ih =>
    have hL : ∀ (l : List Ex), (∀ e ∈ l, ∀ lv n, (depth e + lv ≤ 5 ∧ n + size e ≤ 24 → meas e lv n = (depth e, n + size e)) ∧ (¬ (depth e + lv ≤ 5 ∧ n + size e ≤ 24) → (meas e lv n).1 = 0)) →
        ∀ lv n d, (depthL l + lv ≤ 5 ∧ n + sizeL l ≤ 24 → measL l lv n d = (max d (depthL l) + 1, n + sizeL l)) ∧ (¬ (depthL l + lv ≤ 5 ∧ n + sizeL l ≤ 24) → lv ≤ 5 ∧ n ≤ 24 → (measL l lv n d).1 = 0) := by
      intro l
      induction l with
      | nil => intro _ lv n d; simp [measL, depthL, sizeL]
      | cons e l ihl =>
        intro h lv n d
        have he := h e (by simp)
        have hl := ihl (fun x hx => h x (by simp [hx]))
        simp only [measL, depthL, sizeL]
        have hd := depth_pos e
        have hs := size_pos e
        by_cases c : depth e + lv ≤ 5 ∧ n + size e ≤ 24
        · rw [(he lv n).1 c]
          simp only
          rw [if_neg (by omega)]
          have h2 := hl lv (n + size e) (max d (depth e))
          refine ⟨fun hc => ?_, fun hc hc2 => ?_⟩
          · rw [h2.1 (by omega)]; simp only [Prod.mk.injEq]; omega
          · exact h2.2 (by omega) (by omega)
        · rw [if_pos ((he lv n).2 c)]
          exact ⟨fun hc => by omega, fun _ _ => rfl⟩
    intro lv n
    simp only [meas, depth, size]
    have := hL l ih (lv + 1) (n + 1) 0
    by_cases c : 4 < lv ∨ 24 < n + 1
    · rw [if_pos c]; exact ⟨fun hc => by omega, fun _ => rfl⟩
    · rw [if_neg c]
      refine ⟨fun hc => ?_, fun hc => ?_⟩
      · rw [this.1 (by omega)]; simp only [Prod.mk.injEq]; omega
      · exact this.2 (by omega) (by omega)
theorem rsz_spec (e : Ex) : ∀ dp, (depth e + dp ≤ 5 ∧ size e ≤ 24 → rsz e dp = (size e, depth e)) ∧ (¬ (depth e + dp ≤ 5 ∧ size e ≤ 24) → (rsz e dp).1 = 25) := by
  induction e using Ex.ind with
  | h k a l ih =>
    have hL : ∀ (l : List Ex), (∀ e ∈ l, ∀ dp, (depth e + dp ≤ 5 ∧ size e ≤ 24 → rsz e dp = (size e, depth e)) ∧ (¬ (depth e + dp ≤ 5 ∧ size e ≤ 24) → (rsz e dp).1 = 25)) →
        ∀ dp n d, dp ≤ 5 → n ≤ 24 → (depthL l + dp ≤ 5 ∧ n + sizeL l ≤ 24 → rszL l dp n d = (n + sizeL l, max d (depthL l) + 1)) ∧ (¬ (depthL l + dp ≤ 5 ∧ n + sizeL l ≤ 24) → (rszL l dp n d).1 = 25) := by
      intro l
      induction l with
      | nil => intro _ dp n d h1 h2; refine ⟨fun _ => by simp [rszL, depthL, sizeL], fun hc => absurd ⟨by simp [depthL]; omega, by simp [sizeL]; omega⟩ hc⟩
      | cons e l ihl =>
        intro h dp n d h1 h2
        have he := h e (by simp)
        simp only [rszL, depthL, sizeL]
        have hd := depth_pos e
        have hs := size_pos e
        by_cases c : depth e + dp ≤ 5 ∧ size e ≤ 24
        · rw [(he dp).1 c]
          simp only
          by_cases c2 : 24 < n + size e
          · rw [if_pos c2]; exact ⟨fun hc => by omega, fun _ => rfl⟩
          · rw [if_neg c2]
            have h2 := ihl (fun x hx => h x (by simp [hx])) dp (n + size e) (max d (depth e)) h1 (by omega)
            refine ⟨fun hc => ?_, fun hc => ?_⟩
            · rw [h2.1 (by omega)]; simp only [Prod.mk.injEq]; omega
            · exact h2.2 (by omega)
        · rw [(he dp).2 c, if_pos (by omega)]
          exact ⟨fun hc => by omega, fun _ => rfl⟩
    intro dp
    simp only [rsz, depth, size]
    have hlen := len_sizeL l
    by_cases c : 4 < dp ∨ 24 < l.length
    · rw [if_pos c]; exact ⟨fun hc => by omega, fun _ => rfl⟩
    · rw [if_neg c]
      have := hL l ih (dp + 1) 1 0 (by omega) (by omega)
      refine ⟨fun hc => ?_, fun hc => ?_⟩
      · rw [this.1 (by omega)]; exact Prod.ext rfl (by simp)
      · exact this.2 (by omega)
/-- few nodes and levels -/
def small (e : Ex) : Bool := decide (depth e ≤ 4 ∧ size e ≤ 24)
theorem meas_small {e : Ex} (h : small e = true) : meas e 1 0 = (depth e, size e) := by
  have := (meas_spec e 1 0).1 (by simp [small] at h; omega); simpa using this
theorem meas_great {e : Ex} (h : small e = false) : (meas e 1 0).1 = 0 := (meas_spec e 1 0).2 (by simp [small] at h; omega)
theorem rsz_small {e : Ex} (h : small e = true) : rsz e 1 = (size e, depth e) := (rsz_spec e 1).1 (by simp [small] at h; omega)
theorem rsz_great {e : Ex} (h : small e = false) : (rsz e 1).1 = 25 := (rsz_spec e 1).2 (by simp [small] at h; omega)
def dep (e : Ex) : Nat := if small e then depth e else 0
def nod (e : Ex) : Nat := if small e then size e else 0

/-- names -/
def rsv (s : List UInt8) : Bool := decide (s = [97, 108, 108] ∨ s = [97, 110, 121] ∨ s = [111, 102] ∨ s = [112, 114, 105, 111] ∨ s = [108, 105, 109, 105, 116])
def vname (s : List UInt8) : Bool := match s with
  | [] => false
  | c :: r => decide (r.length ≤ 11) && !rsv s && at8 ltr c && r.all (at8 prt)
/-- what is asked of the byte at an index -/
def okAt (i : Nat) (c : UInt8) : Bool := if i = 0 then at8 ltr c else at8 prt c
theorem vname_all {s : List UInt8} (h0 : 0 < s.length) (h1 : s.length ≤ 12) (hr : rsv s = false) (h : ∀ i, (hi : i < s.length) → okAt i s[i] = true) : vname s = true := by
  cases s with
  | nil => simp at h0
  | cons c r =>
    have hc := h 0 (by simp)
    simp only [vname, hr, Bool.not_false, Bool.and_true, Bool.and_eq_true, decide_eq_true_eq, List.all_eq_true]
    refine ⟨⟨by simpa using h1, by simpa [okAt] using hc⟩, fun x hx => ?_⟩
    obtain ⟨i, hi, rfl⟩ := List.mem_iff_getElem.1 hx
    have := h (i + 1) (by simpa using hi)
    simpa [okAt] using this
theorem vname_bad {s : List UInt8} {i : Nat} (hi : i < s.length) (h : okAt i s[i] = false) : vname s = false := by
  cases s with
  | nil => simp at hi
  | cons c r =>
    cases i with
    | zero => simp [okAt] at h; simp [vname, h]
    | succ i =>
      simp [okAt] at h
      have : r.all (at8 prt) = false := by
        rw [List.all_eq_false]
        have hi' : i < r.length := by simpa using hi
        exact ⟨r[i], List.getElem_mem _, by simp [h]⟩
      simp [vname, this]
theorem vname_len {s : List UInt8} (h : s.length < 1 ∨ 12 < s.length) : vname s = false := by
  cases s with
  | nil => rfl
  | cons c r =>
    simp at h
    have : decide (r.length ≤ 11) = false := by simp; omega
    simp [vname, this]
theorem vname_rsv {s : List UInt8} (h : rsv s = true) : vname s = false := by
  cases s with
  | nil => rfl
  | cons c r => simp [vname, h]
/-- all bytes so far are as they must be -/
def OkTo (s : List UInt8) (k : Nat) : Prop := ∀ i, (hi : i < s.length) → i < k → okAt i s[i] = true
theorem OkTo.zero {s : List UInt8} : OkTo s 0 := fun i _ h => by omega
theorem OkTo.step {s : List UInt8} {k : Nat} (h : OkTo s k) (hk : k < s.length) (hc : okAt k s[k] = true) : OkTo s (k + 1) := by
  intro i hi h1
  by_cases e : i = k
  · subst e; exact hc
  · exact h i hi (by omega)
def usable (a : Am) : Bool := vld a.m && a.u == 0 || decide (a.m = 0 ∧ 1 ≤ a.u ∧ a.u ≤ 8)
theorem usable_fits (a : Am) : usable a = (fits 1 1 a || fits 2 8 a) := by
  simp [usable, fits, shaped]
def vatom (a : At) : Bool := vname a.n && usable a.a
def noAt : At := ⟨[], ⟨0, 0⟩⟩
/-- the program's list of different atoms: (error, list) -/
def noteF : List At → At → Int
  | [], _ => 0
  | b :: l, a => if a = b then 0 else if a.n = b.n then 13 else noteF l a
def note (l : List At) (a : At) : Int × List At := if a ∈ l then (noteF l a, l) else if noteF l a ≠ 0 then (noteF l a, l) else if l.length = 8 then (4, l) else (0, l ++ [a])
mutual
def prop : Ex → List At → Bool × List At
  | .mk k a kids, l => if kids = [] then (if k = 0 ∧ vatom a = true then (decide ((note l a).1 = 0), (note l a).2) else (false, l)) else if k < 1 ∨ (kids.length : Int) < k ∨ a ≠ noAt then (false, l) else propL kids l
def propL : List Ex → List At → Bool × List At
  | [], l => (true, l)
  | e :: r, l => if (prop e l).1 = true then propL r (prop e l).2 else (false, (prop e l).2)
end
/- the reference's: none if a node is neither an atom nor a group -/
mutual
def radd : Ex → List At → Option (List At)
  | .mk k a kids, l => if kids = [] then (if k = 0 ∧ vatom a = true then some (if a ∈ l then l else l ++ [a]) else none) else if k < 1 ∨ (kids.length : Int) < k ∨ a ≠ noAt then none else raddL kids l
def raddL : List Ex → List At → Option (List At)
  | [], l => some l
  | e :: r, l => match radd e l with | none => none | some x => raddL r x
end
mutual
def coll : Ex → List At → List At
  | .mk _ a kids, l => if kids = [] then (if a ∈ l then l else l ++ [a]) else collL kids l
def collL : List Ex → List At → List At
  | [], l => l
  | e :: r, l => collL r (coll e l)
end
def Dist (l : List At) : Prop := l.Pairwise (fun a b => a.n ≠ b.n)
def Good (l : List At) : Prop := l.length ≤ 8 ∧ Dist l
instance (l : List At) : Decidable (Dist l) := by unfold Dist; infer_instance
instance (l : List At) : Decidable (Good l) := by unfold Good; infer_instance
theorem noteF_mem {a : At} : ∀ {l : List At}, Dist l → a ∈ l → noteF l a = 0
  | [], _, h => by simp at h
  | b :: l, hd, h => by
    unfold noteF
    split
    · rfl
    · rename_i hne
      have hm : a ∈ l := by rcases List.mem_cons.1 h with h | h; exact absurd h hne; exact h
      rw [if_neg, noteF_mem (List.pairwise_cons.1 hd).2 hm]
      intro e
      exact (List.pairwise_cons.1 hd).1 a hm e.symm
theorem noteF_out {a : At} : ∀ {l : List At}, a ∉ l → (noteF l a = 0 ↔ ∀ b ∈ l, b.n ≠ a.n)
  | [], _ => by simp [noteF]
  | b :: l, h => by
    unfold noteF
    rw [if_neg (fun e => h (by simp [e]))]
    split
    · rename_i e; simp [e]
    · rename_i e
      rw [noteF_out (fun hm => h (by simp [hm]))]
      simp; intro _ e'; exact e e'.symm
theorem Good.snoc {l : List At} {a : At} : Good (l ++ [a]) ↔ Good l ∧ l.length < 8 ∧ ∀ b ∈ l, b.n ≠ a.n := by
  unfold Good Dist
  rw [List.pairwise_append]
  simp
  constructor
  · rintro ⟨h1, h2, h3⟩; exact ⟨⟨by omega, h2⟩, by omega, h3⟩
  · rintro ⟨⟨h1, h2⟩, h3, h4⟩; exact ⟨by omega, h2, h4⟩
theorem Good.pre {l r : List At} (h : Good (l ++ r)) : Good l := by
  unfold Good Dist at *
  rw [List.pairwise_append] at h
  simp at h
  exact ⟨by omega, h.2.1⟩
theorem note_good {l : List At} {a : At} (h : Good l) : if Good (if a ∈ l then l else l ++ [a]) then note l a = (0, if a ∈ l then l else l ++ [a]) else (note l a).1 ≠ 0 := by
  unfold note
  by_cases hm : a ∈ l
  · simp only [hm, if_true]
    rw [if_pos h, noteF_mem h.2 hm]
  · simp only [hm, if_false]
    have ho := noteF_out hm
    by_cases hn : noteF l a = 0
    · rw [if_neg (not_not_intro hn)]
      by_cases hl : l.length = 8
      · rw [if_neg (fun hg => by have := (Good.snoc.1 hg).2.1; omega), if_pos hl]; exact (by decide : (4 : Int) ≠ 0)
      · rw [if_pos (Good.snoc.2 ⟨h, by have := h.1; omega, ho.1 hn⟩), if_neg hl]
    · rw [if_neg (fun hg => hn (ho.2 (Good.snoc.1 hg).2.2)), if_pos hn]; exact hn
theorem radd_pre (e : Ex) : ∀ l x, radd e l = some x → ∃ r, x = l ++ r := by
  induction e using Ex.ind with
  | h k a kids ih =>
    have hL : ∀ (ks : List Ex), (∀ e ∈ ks, ∀ l x, radd e l = some x → ∃ r, x = l ++ r) → ∀ l x, raddL ks l = some x → ∃ r, x = l ++ r := by
      intro ks
      induction ks with
      | nil => intro _ l x h; simp [raddL] at h; exact ⟨[], by simp [h]⟩
      | cons e ks ihk =>
        intro hk l x h
        simp only [raddL] at h
        split at h
        · cases h
        · rename_i y hy
          obtain ⟨r1, rfl⟩ := hk e (by simp) l y hy
          obtain ⟨r2, rfl⟩ := ihk (fun x hx => hk x (by simp [hx])) _ _ h
          exact ⟨r1 ++ r2, by simp⟩
    intro l x h
    simp only [radd] at h
    split at h
    · split at h
      · split at h
        · injection h with h; exact ⟨[], by simp [h]⟩
        · injection h with h; exact ⟨[a], h.symm⟩
      · cases h
    · split at h
      · cases h
      · exact hL kids ih l x h
/-- the two ways agree -/
theorem prop_radd (e : Ex) : ∀ l, Good l → match radd e l with
    | none => (prop e l).1 = false
    | some x => if Good x then prop e l = (true, x) else (prop e l).1 = false := by
  induction e using Ex.ind with
  | h k a kids ih =>
    have hL : ∀ (ks : List Ex), (∀ e ∈ ks, ∀ l, Good l → match radd e l with
        | none => (prop e l).1 = false
        | some x => if Good x then prop e l = (true, x) else (prop e l).1 = false) → ∀ l, Good l → match raddL ks l with
        | none => (propL ks l).1 = false
        | some x => if Good x then propL ks l = (true, x) else (propL ks l).1 = false := by
      intro ks
      induction ks with
      | nil => intro _ l h; simp [raddL, propL, h]
      | cons e ks ihk =>
        intro hk l h
        have he := hk e (by simp) l h
        simp only [raddL, propL]
        cases hr : radd e l with
        | none => rw [hr] at he; simp only at he ⊢; rw [he]; simp
        | some x =>
          rw [hr] at he
          simp only at he ⊢
          by_cases hg : Good x
          · rw [if_pos hg] at he
            rw [he]
            simpa using ihk (fun x hx => hk x (by simp [hx])) x hg
          · rw [if_neg hg] at he
            rw [he]
            cases hr2 : raddL ks x with
            | none => simp
            | some y =>
              simp only
              rw [if_neg]
              · simp
              · intro hy
                obtain ⟨r, rfl⟩ : ∃ r, y = x ++ r := by
                  have : ∀ (ks : List Ex) l x, raddL ks l = some x → ∃ r, x = l ++ r := by
                    intro ks
                    induction ks with
                    | nil => intro l x h; simp [raddL] at h; exact ⟨[], by simp [h]⟩
                    | cons e ks ihk =>
                      intro l x h
                      simp only [raddL] at h
                      split at h
                      · cases h
                      · rename_i y hy
                        obtain ⟨r1, rfl⟩ := radd_pre e l y hy
                        obtain ⟨r2, rfl⟩ := ihk _ _ h
                        exact ⟨r1 ++ r2, by simp⟩
                  exact this ks x y hr2
                exact hg hy.pre
    intro l h
    simp only [radd, prop]
    by_cases hk : kids = []
    · rw [if_pos hk, if_pos hk]
      by_cases hv : k = 0 ∧ vatom a = true
      · rw [if_pos hv, if_pos hv]
        have := note_good (a := a) h
        generalize (if a ∈ l then l else l ++ [a]) = x at *
        simp only
        by_cases hg : Good x
        · rw [if_pos hg] at this ⊢; simp [this]
        · rw [if_neg hg] at this ⊢; simpa using this
      · rw [if_neg hv, if_neg hv]
    · rw [if_neg hk, if_neg hk]
      by_cases hb : k < 1 ∨ (kids.length : Int) < k ∨ a ≠ noAt
      · rw [if_pos hb, if_pos hb]
      · rw [if_neg hb, if_neg hb]; exact hL kids ih l h
theorem radd_coll (e : Ex) : ∀ l x, radd e l = some x → x = coll e l := by
  induction e using Ex.ind with
  | h k a kids ih =>
    have hL : ∀ (ks : List Ex), (∀ e ∈ ks, ∀ l x, radd e l = some x → x = coll e l) → ∀ l x, raddL ks l = some x → x = collL ks l := by
      intro ks
      induction ks with
      | nil => intro _ l x h; simp [raddL] at h; simp [collL, h]
      | cons e ks ihk =>
        intro hk l x h
        simp only [raddL] at h
        split at h
        · cases h
        · rename_i y hy
          obtain rfl := hk e (by simp) l y hy
          exact ihk (fun x hx => hk x (by simp [hx])) _ _ h
    intro l x h
    simp only [radd, coll] at h ⊢
    split at h
    · rename_i hk
      rw [if_pos hk]
      split at h
      · injection h with h; exact h.symm
      · cases h
    · rename_i hk
      rw [if_neg hk]
      split at h
      · cases h
      · exact hL kids ih l x h
/-- every node is an atom or a group -/
def valid (e : Ex) : Bool := small e && (match radd e [] with | none => false | some x => decide (Good x))
def atoms (e : Ex) : List At := if valid e then coll e [] else []
theorem good_nil : Good [] := ⟨by simp, List.Pairwise.nil⟩
theorem valid_prop (e : Ex) : valid e = (small e && (prop e []).1) := by
  unfold valid
  have := prop_radd e [] good_nil
  cases h : radd e [] with
  | none => rw [h] at this; simp only at this ⊢; rw [this]
  | some x =>
    rw [h] at this
    simp only at this ⊢
    split at this
    · rename_i hg; rw [this]; simp [hg]
    · rename_i hg; rw [this]; simp [hg]
theorem valid_coll {e : Ex} (h : valid e = true) : radd e [] = some (coll e []) ∧ Good (coll e []) ∧ small e = true := by
  unfold valid at h
  cases hr : radd e [] with
  | none => rw [hr] at h; simp at h
  | some x =>
    rw [hr] at h
    obtain rfl := radd_coll e [] x hr
    simp at h
    exact ⟨rfl, h.2, h.1⟩
end CL
