
/- Plain: what Record, Save, Undo, Count, Drop, Held, Holdings return for a ledger. No program in sight. -/
import Derived.Test.YtaebindbadfaaaaLh
namespace CL
open Go.Op (bytesLess)
/-- the first savepoint with a label -/
def plo (l : List Sv) (lb : Int) : Option Nat := l.findIdx? (fun s => decide (s.l = lb))
def plc (l : List Sv) (lb : Int) : Int := match plo l lb with | none => -1 | some i => (i : Int)
def PTo (l : List Sv) (lb : Int) (j : Nat) : Prop := ∀ i, (hi : i < l.length) → i < j → l[i].l ≠ lb
theorem PTo.zero (l : List Sv) (lb : Int) : PTo l lb 0 := fun i _ h => by omega
theorem PTo.step {l : List Sv} {lb : Int} {j : Nat} (h : PTo l lb j) (hj : j < l.length) (hn : ¬ l[j].l = lb) : PTo l lb (j + 1) := by
  intro i hi hij
  by_cases e : i = j
  · subst e; exact hn
  · exact h i hi (by omega)
theorem plo_hit {l : List Sv} {lb : Int} {j : Nat} (h : PTo l lb j) (hj : j < l.length) (hn : l[j].l = lb) : plo l lb = some j := by
  rw [plo, List.findIdx?_eq_some_iff_getElem]
  exact ⟨hj, by simpa using hn, fun i hi => by have := h i (by omega) hi; simpa using this⟩
theorem plo_none {l : List Sv} {lb : Int} {j : Nat} (h : PTo l lb j) (hj : l.length ≤ j) : plo l lb = none := by
  rw [plo, List.findIdx?_eq_none_iff]
  intro x hx
  obtain ⟨i, hi, rfl⟩ := List.getElem_of_mem hx
  have := h i hi (by omega)
  simpa using this
theorem plc_hit {l : List Sv} {lb : Int} {j : Nat} (h : PTo l lb j) (hj : j < l.length) (hn : l[j].l = lb) : plc l lb = j := by simp [plc, plo_hit h hj hn]
theorem plc_none {l : List Sv} {lb : Int} {j : Nat} (h : PTo l lb j) (hj : l.length ≤ j) : plc l lb = -1 := by simp [plc, plo_none h hj]
theorem plo_some {l : List Sv} {lb : Int} {j : Nat} (h : plo l lb = some j) : ∃ hj : j < l.length, l[j].l = lb ∧ PTo l lb j := by
  rw [plo, List.findIdx?_eq_some_iff_getElem] at h
  obtain ⟨hj, h1, h2⟩ := h
  exact ⟨hj, by simpa using h1, fun i hi hij => by simpa using h2 i hij⟩
theorem plo_out {l : List Sv} {lb : Int} (h : plo l lb = none) : PTo l lb l.length := fun i hi _ => by
  rw [plo, List.findIdx?_eq_none_iff] at h
  simpa using h _ (List.getElem_mem hi)
theorem plc_nn {l : List Sv} {lb : Int} : 0 ≤ plc l lb ↔ ∃ i, ∃ hi : i < l.length, plc l lb = i ∧ l[i].l = lb := by
  unfold plc
  cases h : plo l lb with
  | none => simp
  | some i => obtain ⟨hi, h1, _⟩ := plo_some h; simp only [Int.natCast_nonneg, true_iff]; exact ⟨i, hi, rfl, h1⟩
theorem plc_ge {l : List Sv} {lb : Int} : 0 ≤ plc l lb ↔ ∃ i, ∃ hi : i < l.length, l[i].l = lb := by
  rw [plc_nn]
  constructor
  · rintro ⟨i, hi, _, h⟩; exact ⟨i, hi, h⟩
  · rintro ⟨i, hi, h⟩
    cases hp : plo l lb with
    | none => exact absurd h (plo_out hp i hi hi)
    | some k => obtain ⟨hk, h1, _⟩ := plo_some hp; exact ⟨k, hk, by simp [plc, hp], h1⟩
theorem plc_lt (l : List Sv) (lb : Int) : -1 ≤ plc l lb ∧ plc l lb < l.length := by
  by_cases h : 0 ≤ plc l lb
  · obtain ⟨i, hi, e, _⟩ := plc_nn.1 h; omega
  · unfold plc at h ⊢; split at h <;> simp_all <;> omega
/-- the step over savepoints, as the program asks it -/
theorem SvTo.zero (l : List Sv) (n : Nat) : SvTo l n 0 := fun i _ h => by omega
def SvOk (l : List Sv) (n j : Nat) (hj : j < l.length) : Prop := (1 ≤ l[j].l ∧ l[j].l ≤ 99) ∧ (∀ k, (hk : k < j) → l[k].l ≠ l[j].l) ∧ (0 ≤ l[j].t ∧ l[j].t ≤ n) ∧ ((h0 : 0 < j) → (l[j - 1]'(by omega)).t ≤ l[j].t)
theorem SvTo.step {l : List Sv} {n j : Nat} (h : SvTo l n j) (hj : j < l.length) (k : SvOk l n j hj) : SvTo l n (j + 1) := by
  intro i hi hij
  by_cases e : i = j
  · subst e; exact k
  · exact h i hi (by omega)
theorem svs_bad {l : List Sv} {n j : Nat} (hj : j < l.length) (h : ¬ SvOk l n j hj) : svs l n = false := decide_eq_false (fun c => h (c.2 j hj hj))
theorem svs_long {l : List Sv} {n : Nat} (h : 4 < l.length) : svs l n = false := decide_eq_false (fun c => by have := c.1; omega)
theorem svs_all {l : List Sv} {n j : Nat} (h4 : l.length ≤ 4) (hj : l.length ≤ j) (h : SvTo l n j) : svs l n = true := decide_eq_true ⟨h4, fun i hi _ => h i hi (by omega)⟩
theorem plc_take {l : List Sv} {j : Nat} (hj : j < l.length) : 0 ≤ plc (l.take j) l[j].l ↔ ¬ ∀ k, (hk : k < j) → l[k].l ≠ l[j].l := by
  rw [plc_ge]
  constructor
  · rintro ⟨i, hi, h⟩ c
    simp at hi
    rw [List.getElem_take] at h
    exact c i (by omega) h
  · intro h
    refine Classical.byContradiction fun c => h fun k hk e => c ⟨k, by rw [List.length_take]; omega, by rw [List.getElem_take]; exact e⟩
theorem plc_self {l : List Sv} {j : Nat} (hj : j < l.length) : plc l l[j].l = j ↔ ∀ k, (hk : k < j) → l[k].l ≠ l[j].l := by
  constructor
  · intro h k hk
    unfold plc at h
    cases hp : plo l l[j].l with
    | none => rw [hp] at h; exact absurd h (by simp only []; omega)
    | some i => rw [hp] at h; simp at h; obtain ⟨_, _, h2⟩ := plo_some hp; exact h2 k (by omega) (by omega)
  · intro h; exact plc_hit (fun i hi hij => h i hij) hj rfl
/-- the At of the savepoint before -/
def prv (l : List Sv) (j : Nat) : Int := if j = 0 then 0 else (l.getD (j - 1) ⟨0, 0⟩).t
theorem prv_step {l : List Sv} {j : Nat} (hj : j < l.length) : prv l (j + 1) = l[j].t := by simp [prv, List.getD, hj]
theorem svok_iff {l : List Sv} {n j : Nat} (h : SvTo l n j) (hj : j < l.length) : SvOk l n j hj ↔ (1 ≤ l[j].l ∧ l[j].l ≤ 99) ∧ ¬ 0 ≤ plc (l.take j) l[j].l ∧ prv l j ≤ l[j].t ∧ l[j].t ≤ n := by
  have h1 := plc_take hj
  have h2 : ((0 ≤ l[j].t ∧ l[j].t ≤ n) ∧ ((h0 : 0 < j) → (l[j - 1]'(by omega)).t ≤ l[j].t)) ↔ prv l j ≤ l[j].t ∧ l[j].t ≤ n := by
    by_cases h0 : j = 0
    · subst h0; simp [prv]
    · have hp : prv l j = (l[j - 1]'(by omega)).t := by simp [prv, h0, List.getD, show j - 1 < l.length by omega]
      have := (h (j - 1) (by omega) (by omega)).2.2.1.1
      rw [hp]
      constructor
      · rintro ⟨a, b⟩; exact ⟨b (by omega), a.2⟩
      · rintro ⟨a, b⟩; exact ⟨⟨by omega, b⟩, fun _ => a⟩
  unfold SvOk
  rw [h1, Classical.not_not, ← h2]
/-- the reference's way of saying it -/
theorem svok_ref {l : List Sv} {n j : Nat} (hj : j < l.length) : SvOk l n j hj ↔ (1 ≤ l[j].l ∧ l[j].l ≤ 99) ∧ (0 ≤ l[j].t ∧ l[j].t ≤ n) ∧ ((h0 : 0 < j) → (l[j - 1]'(by omega)).t ≤ l[j].t) ∧ plc l l[j].l = j := by
  unfold SvOk
  rw [plc_self hj]
  constructor
  · rintro ⟨a, b, c, d⟩; exact ⟨a, c, d, b⟩
  · rintro ⟨a, c, d, b⟩; exact ⟨a, b, c, d⟩
def noLg : Lg := ⟨[], []⟩
def rcd (x : Lg) (e : En) : Lg × Int := if lval x = true then (if lval ⟨x.es ++ [e], x.ss⟩ = true then (⟨x.es ++ [e], x.ss⟩, 0) else (noLg, 1)) else (noLg, 2)
def sav (x : Lg) (lb : Int) : Lg × Int :=
  if lval x = true then (if lb < 1 ∨ 99 < lb then (noLg, 1) else if 0 ≤ plc x.ss lb then (noLg, 11) else if 4 ≤ x.ss.length then (noLg, 4) else (⟨x.es, x.ss ++ [⟨lb, x.es.length⟩]⟩, 0)) else (noLg, 2)
/-- what entries p say of the names of entries q -/
def says (p q : List En) : List At := (snm q).map (fun s => ⟨s, held p s⟩)
/-- where Undo goes back to: entries and savepoints -/
def back (x : Lg) (lb : Int) : Option (Nat × Nat) := if lb = 0 then some (0, 0) else match plo x.ss lb with | none => none | some i => some ((x.ss.getD i ⟨0, 0⟩).t.toNat, i + 1)
def cutL (x : Lg) (a s : Nat) : Lg := ⟨x.es.take a, x.ss.take s⟩
def und (x : Lg) (lb : Int) : Lg × List At × Int :=
  if lval x = true then (match back x lb with | none => (noLg, [], 10) | some p => (cutL x p.1 p.2, says (x.es.take p.1) (x.es.drop p.1), 0)) else (noLg, [], 2)
def cnt (x : Lg) (lb : Int) : Int := if (und x lb).2.2 = 0 then (x.es.length : Int) - (und x lb).1.es.length else -1
/-- how many of the first k entries bear a name -/
def nOf (l : List En) (s : List UInt8) (k : Nat) : Nat := ((l.take k).filter (fun e => decide (e.n = s))).length
def less (l : List En) (s : List UInt8) (v : Sv) : Sv := ⟨v.l, v.t - nOf l s v.t.toNat⟩
def others (l : List En) (s : List UInt8) : List En := l.filter (fun e => !decide (e.n = s))
def drp (x : Lg) (s : List UInt8) : Lg × Bool :=
  if lval x = true then (if (others x.es s).length = x.es.length then (noLg, false) else (⟨others x.es s, x.ss.map (less x.es s)⟩, true)) else (noLg, false)
/-- what is held, ascending by name -/
def hold (l : List En) : List At := (says l l).filter (fun a => !zer a.a)
end CL
namespace CL
open Go.Op (bytesLess)
theorem sorted_is {f : List UInt8 → At} (hf : ∀ s, (f s).n = s) {L vs : List (List UInt8)} {l' : List At} (hL : Asc L) (hv : vs.Perm L) (hp : l'.Perm (vs.map f)) (hs : l'.Pairwise (fun a b => bytesLess b.n a.n = false)) : l' = L.map f := by
  have h1 : (l'.map At.n).Perm L := by
    have := hp.map At.n
    rw [List.map_map, show (At.n ∘ f) = id from funext hf, List.map_id] at this
    exact this.trans hv
  have hnd : (l'.map At.n).Nodup := h1.nodup_iff.2 (hL.imp (fun {a b} h e => by subst e; rw [bs_irr] at h; cases h))
  have h2 : Asc (l'.map At.n) := by
    have h3 : (l'.map At.n).Pairwise (fun a b => bytesLess b a = false) := List.pairwise_map.2 hs
    refine (List.pairwise_and_iff.2 ⟨h3, hnd⟩).imp fun {a b} hab => ?_
    rcases bs_tot a b with h | h | h
    · exact h
    · exact absurd h hab.2
    · rw [hab.1] at h; cases h
  have h4 : l'.map At.n = L := h2.uniq hL h1
  rw [← h4, List.map_map]
  have h5 : ∀ x ∈ l', (f ∘ At.n) x = x := by
    intro x hx
    obtain ⟨s, _, rfl⟩ := List.mem_map.1 (hp.mem_iff.1 hx)
    simp [hf]
  rw [List.map_congr_left h5, List.map_id']
theorem says_sorted {p q : List En} {vs : List (List UInt8)} {l' : List At} (hv : vs.Perm (dn q)) (hp : l'.Perm (vs.map (fun s => ⟨s, held p s⟩))) (hs : l'.Pairwise (fun a b => bytesLess b.n a.n = false)) : l' = says p q :=
  sorted_is (f := fun s => ⟨s, held p s⟩) (fun _ => rfl) (snm_asc q) (hv.trans (snm_perm q).symm) hp hs
theorem hold_sorted {l : List En} {vs : List (List UInt8)} {l' : List At} (hv : vs.Perm (dn l)) (hp : l'.Perm ((vs.filter (fun s => !zer (held l s))).map (fun s => ⟨s, held l s⟩))) (hs : l'.Pairwise (fun a b => bytesLess b.n a.n = false)) : l' = hold l := by
  have h := sorted_is (f := fun s => ⟨s, held l s⟩) (fun _ => rfl) (L := (snm l).filter (fun s => !zer (held l s))) ((snm_asc l).filter _) ((hv.trans (snm_perm l).symm).filter _) hp hs
  rw [h, hold, says, List.filter_map]
  rfl
end CL
namespace CL
theorem und_len (x : Lg) (lb : Int) : (und x lb).1.es.length ≤ x.es.length := by
  unfold und
  split
  · split
    · simp [noLg]
    · simp [cutL, List.length_take]; omega
  · simp [noLg]
end CL
namespace CL
/-- a savepoint behind the first k entries, when a name is struck -/
def les (l : List En) (s : List UInt8) (k : Nat) (v : Sv) : Sv := ⟨v.l, v.t - nOf l s (min k v.t.toNat)⟩
theorem nOf_step {l : List En} {s : List UInt8} {j : Nat} (hj : j < l.length) : nOf l s (j + 1) = nOf l s j + (if l[j].n = s then 1 else 0) := by
  unfold nOf
  rw [take_snoc hj, List.filter_append, List.length_append]
  by_cases h : l[j].n = s <;> simp [h]
theorem les_zero (l : List En) (s : List UInt8) (v : Sv) : les l s 0 v = v := by simp [les, nOf]
theorem les_hit {l : List En} {s : List UInt8} {j : Nat} (hj : j < l.length) (hn : l[j].n = s) (v : Sv) : les l s (j + 1) v = if (j : Int) < v.t then ⟨v.l, (les l s j v).t - 1⟩ else les l s j v := by
  unfold les
  by_cases h : (j : Int) < v.t
  · rw [if_pos h, Nat.min_eq_left (by omega), Nat.min_eq_left (by omega), nOf_step hj, if_pos hn]
    simp only [Sv.mk.injEq, true_and]
    omega
  · rw [if_neg h, Nat.min_eq_right (by omega), Nat.min_eq_right (by omega)]
theorem les_miss {l : List En} {s : List UInt8} {j : Nat} (hj : j < l.length) (hn : ¬ l[j].n = s) (v : Sv) : les l s (j + 1) v = les l s j v := by
  unfold les
  by_cases h : (j : Int) < v.t
  · rw [Nat.min_eq_left (by omega), Nat.min_eq_left (by omega), nOf_step hj, if_neg hn]; simp
  · rw [Nat.min_eq_right (by omega), Nat.min_eq_right (by omega)]
theorem les_end {l : List En} {s : List UInt8} {v : Sv} (h : v.t ≤ l.length) : les l s l.length v = less l s v := by
  unfold les less
  rw [Nat.min_eq_right (by omega)]
theorem others_step {l : List En} {s : List UInt8} {j : Nat} (hj : j < l.length) : others (l.take (j + 1)) s = if l[j].n = s then others (l.take j) s else others (l.take j) s ++ [l[j]] := by
  rw [take_snoc hj]
  unfold others
  rw [List.filter_append]
  by_cases h : l[j].n = s <;> simp [h]
theorem others_le (l : List En) (s : List UInt8) : (others l s).length ≤ l.length := List.length_filter_le _ _
theorem les_t {l : List En} {s : List UInt8} {k : Nat} {v : Sv} (h0 : 0 ≤ v.t) (hn : v.t ≤ l.length) : 0 ≤ (les l s k v).t ∧ (les l s k v).t ≤ v.t := by
  have : nOf l s (min k v.t.toNat) ≤ min k v.t.toNat := by
    unfold nOf
    have := List.length_filter_le (fun e : En => decide (e.n = s)) (l.take (min k v.t.toNat))
    rw [List.length_take] at this
    omega
  show 0 ≤ v.t - _ ∧ v.t - _ ≤ v.t
  omega
/-- the inner loop over savepoints: the first q have been done -/
def mix (l : List En) (s : List UInt8) (j q : Nat) (ss : List Sv) : List Sv := (ss.take q).map (les l s (j + 1)) ++ (ss.drop q).map (les l s j)
theorem mix_len (l : List En) (s : List UInt8) (j q : Nat) (ss : List Sv) : (mix l s j q ss).length = ss.length := by
  simp [mix]; omega
theorem mix_zero (l : List En) (s : List UInt8) (j : Nat) (ss : List Sv) : mix l s j 0 ss = ss.map (les l s j) := by simp [mix]
theorem mix_end {l : List En} {s : List UInt8} {j q : Nat} {ss : List Sv} (h : ss.length ≤ q) : mix l s j q ss = ss.map (les l s (j + 1)) := by
  simp [mix, List.take_of_length_le h, List.drop_eq_nil_of_le h]
theorem mix_get {l : List En} {s : List UInt8} {j q : Nat} {ss : List Sv} (h : q < ss.length) : (mix l s j q ss)[q]'(by rw [mix_len]; exact h) = les l s j ss[q] := by
  unfold mix
  have h1 : ((ss.take q).map (les l s (j + 1))).length = q := by simp; omega
  rw [List.getElem_append_right (by omega)]
  simp only [h1, Nat.sub_self, List.getElem_map, List.getElem_drop, Nat.add_zero]
theorem mix_set {l : List En} {s : List UInt8} {j q : Nat} {ss : List Sv} (h : q < ss.length) : (mix l s j q ss).set q (les l s (j + 1) ss[q]) = mix l s j (q + 1) ss := by
  unfold mix
  have h1 : ((ss.take q).map (les l s (j + 1))).length = q := by simp; omega
  rw [List.set_append_right _ _ (by omega), h1, Nat.sub_self, List.drop_eq_getElem_cons h, List.map_cons, List.set_cons_zero, take_snoc h, List.map_append]
  simp
theorem mix_same {l : List En} {s : List UInt8} {j q : Nat} {ss : List Sv} (h : q < ss.length) (he : les l s (j + 1) ss[q] = les l s j ss[q]) : mix l s j (q + 1) ss = mix l s j q ss := by
  rw [← mix_set h, he]
  have := mix_get (l := l) (s := s) (j := j) h
  rw [← this, List.set_getElem_self]
end CL
