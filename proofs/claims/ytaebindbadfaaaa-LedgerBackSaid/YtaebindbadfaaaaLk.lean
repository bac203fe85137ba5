
/- Plain: ledgers made of numbers; the statements on scripts, Undo behind a savepoint, Undo to the beginning, Drop. No program in sight. -/
import Derived.Test.YtaebindbadfaaaaLj
namespace CL
open Go.Op (bytesLess)
theorem lval_rcd {x : Lg} {e : En} (h : (rcd x e).2 = 0) : lval (rcd x e).1 = true := by
  obtain ⟨_, h2, h3⟩ := rcd_ok h; rw [h2]; exact h3
/-- an amount that grows from another one -/
def grownF (a : Am) (n : Int) : Am :=
  if a.m = 0 ∧ (0 < a.u ∨ n.tmod 2 = 0) then ⟨0, a.u + 1 + (n.tdiv 2).tmod 2⟩
  else ⟨if (n.tdiv 2).tmod 5 = 0 then 1 else if (n.tdiv 2).tmod 5 = 1 then 2 else if (n.tdiv 2).tmod 5 = 2 then 3 else if (n.tdiv 2).tmod 5 = 3 then 4 else 5, 0⟩
def nmOf (k : Int) : List UInt8 := if k = 0 then [97] else if k = 1 then [98] else if k = 2 then [99] else if k = 3 then [112] else [113]
def mdm (n : Int) : Int := if n.tmod 1048576 < 0 then n.tmod 1048576 + 1048576 else n.tmod 1048576
theorem mdm_lt (n : Int) : 0 ≤ mdm n ∧ mdm n < 1048576 := by
  unfold mdm
  have h1 := Int.tmod_lt_of_pos n (b := 1048576) (by omega)
  have h2 := Int.lt_tmod_of_pos n (b := 1048576) (by omega)
  split <;> omega
/-- the entry that a number makes -/
def enOf (x : Lg) (n : Int) : En := ⟨nmOf (n.tmod 5), held x.es (nmOf (n.tmod 5)), grownF (held x.es (nmOf (n.tmod 5))) (n.tdiv 5)⟩
def mre (x : Lg) (n : Int) : Lg :=
  if n.tmod 7 = 0 then (if (sav x (1 + (n.tdiv 7).tmod 9)).2 = 0 then (sav x (1 + (n.tdiv 7).tmod 9)).1 else x)
  else if (rcd x (enOf x n)).2 = 0 then (rcd x (enOf x n)).1 else x
def mde (l : List Int) : Lg := l.foldl (fun x n => mre x (mdm n)) noLg
theorem mre_valid {x : Lg} (h : lval x = true) (n : Int) : lval (mre x n) = true := by
  unfold mre
  split
  · split
    · rename_i _ k; exact sav_valid k
    · exact h
  · split
    · rename_i _ k; exact lval_rcd k
    · exact h
theorem mde_valid (l : List Int) : lval (mde l) = true := by
  unfold mde
  induction l using rev_ind with
  | h0 => exact lval_nil
  | h1 l n ih => rw [List.foldl_append]; exact mre_valid ih _
theorem mde_snoc (l : List Int) (n : Int) : mde (l ++ [n]) = mre (mde l) (mdm n) := by unfold mde; rw [List.foldl_append]; rfl
theorem mde_step {l : List Int} {j : Nat} (hj : j < l.length) : mde (l.take (j + 1)) = mre (mde (l.take j)) (mdm l[j]) := by rw [take_snoc hj, mde_snoc]
/-- behind it: entries and savepoints have only been added -/
def Pre (x y : Lg) : Prop := x.es <+: y.es ∧ x.ss <+: y.ss
theorem Pre.rfl' (x : Lg) : Pre x x := ⟨List.prefix_rfl, List.prefix_rfl⟩
theorem Pre.tr {x y z : Lg} (h : Pre x y) (k : Pre y z) : Pre x z := ⟨h.1.trans k.1, h.2.trans k.2⟩
theorem mre_pre (x : Lg) (n : Int) : Pre x (mre x n) := by
  unfold mre
  split
  · split
    · rename_i _ k; obtain ⟨_, h2, _⟩ := sav_ok k; rw [h2]; exact ⟨List.prefix_rfl, List.prefix_append _ _⟩
    · exact Pre.rfl' x
  · split
    · rename_i _ k; obtain ⟨_, h2, _⟩ := rcd_ok k; rw [h2]; exact ⟨List.prefix_append _ _, List.prefix_rfl⟩
    · exact Pre.rfl' x
def mdl (x : Lg) (l : List Int) : Lg := l.foldl (fun x n => mre x (mdm n)) x
theorem mdl_nil (x : Lg) : mdl x [] = x := rfl
theorem mdl_step {x : Lg} {l : List Int} {j : Nat} (hj : j < l.length) : mdl x (l.take (j + 1)) = mre (mdl x (l.take j)) (mdm l[j]) := by
  rw [take_snoc hj]; unfold mdl; rw [List.foldl_append]; rfl
theorem mdl_pre (x : Lg) (l : List Int) : Pre x (mdl x l) := by
  unfold mdl
  induction l using rev_ind with
  | h0 => exact Pre.rfl' x
  | h1 l n ih => rw [List.foldl_append]; exact ih.tr (mre_pre _ _)
theorem mdl_valid {x : Lg} (h : lval x = true) (l : List Int) : lval (mdl x l) = true := by
  unfold mdl
  induction l using rev_ind with
  | h0 => exact h
  | h1 l n ih => rw [List.foldl_append]; exact mre_valid ih _
/-- names that later entries speak of have grown -/
theorem grown_later {l r : List En} (h : EnTo (l ++ r) (l ++ r).length) {s : List UInt8} : rank (held l s) ≤ rank (held (l ++ r) s) ∧ ((∃ e ∈ r, e.n = s) → rank (held l s) < rank (held (l ++ r) s)) := by
  revert h
  induction r using rev_ind with
  | h0 => intro _; simp
  | h1 r e ih =>
    intro h
    rw [← List.append_assoc] at h ⊢
    obtain ⟨h1, _, h3, h4⟩ := h.last
    obtain ⟨i1, i2⟩ := ih h1
    rw [held_snoc]
    by_cases he : e.n = s
    · rw [if_pos he]
      have := (grows_rank h4).1
      rw [h3, he] at this
      exact ⟨by omega, fun _ => by omega⟩
    · rw [if_neg he]
      refine ⟨i1, ?_⟩
      rintro ⟨x, hx, hs⟩
      rcases List.mem_append.1 hx with hx | hx
      · exact i2 ⟨x, hx, hs⟩
      · simp at hx; subst hx; exact absurd hs he
/-- a name that entries speak of is held -/
theorem held_nz {l : List En} (h : EnTo l l.length) {s : List UInt8} (hs : s ∈ snm l) : zer (held l s) = false := by
  have := (grown_later (l := []) (r := l) (by simpa using h) (s := s)).2 (mem_snm.1 hs)
  cases hz : zer (held l s)
  · rfl
  · rw [List.nil_append, zer_iff.1 hz] at this; simp [held_nil, rank] at this
theorem hold_valid {l : List En} (h : EnTo l l.length) : hold l = says l l := by
  unfold hold
  rw [List.filter_eq_self]
  intro a ha
  obtain ⟨s, hs, rfl⟩ := List.mem_map.1 ha
  simp [held_nz h hs]
theorem plo_pre {l r : List Sv} {lb : Int} {i : Nat} (h : plo l lb = some i) : plo (l ++ r) lb = some i := by
  obtain ⟨hi, h1, h2⟩ := plo_some h
  exact plo_hit (j := i) (fun k hk hki => by rw [List.getElem_append_left (by omega)]; exact h2 k (by omega) hki) (by simp; omega) (by rw [List.getElem_append_left hi]; exact h1)
theorem plo_last {l : List Sv} {v : Sv} (h : plo l v.l = none) : plo (l ++ [v]) v.l = some l.length :=
  plo_hit (j := l.length) (fun k hk hki => by rw [List.getElem_append_left hki]; exact plo_out h k hki hki) (by simp) (by simp)
/-- P14.2, P14.3: Undo to a savepoint gives back the ledger as it was when it was made -/
theorem back_law {x y : Lg} {lb : Int} (hs : (sav x lb).2 = 0) (hp : Pre (sav x lb).1 y) (hv : lval y = true) :
    und y lb = ((sav x lb).1, says (sav x lb).1.es (y.es.drop (sav x lb).1.es.length), 0) ∧ (sav x lb).1.es.length ≤ y.es.length ∧ (∀ s ∈ snm (y.es.drop (sav x lb).1.es.length), held (sav x lb).1.es s ≠ held y.es s) := by
  obtain ⟨_, h2, h3, h4, h5⟩ := sav_ok hs
  rw [h2] at hp ⊢
  obtain ⟨⟨r, hr⟩, ⟨q, hq⟩⟩ := hp
  obtain ⟨⟨hv1, _⟩, _⟩ := lval_get hv
  simp only at hr hq ⊢
  have e1 : plo y.ss lb = some x.ss.length := by
    rw [← hq]; exact plo_pre (plo_last (v := ⟨lb, x.es.length⟩) h4)
  have e2 : (y.ss.getD x.ss.length ⟨0, 0⟩) = ⟨lb, x.es.length⟩ := by
    rw [← hq]; simp [List.getD]
  have e3 : y.es.take x.es.length = x.es := by rw [← hr]; simp
  have e4 : y.ss.take (x.ss.length + 1) = x.ss ++ [⟨lb, x.es.length⟩] := by rw [← hq]; exact List.take_left' (by simp)
  refine ⟨?_, by rw [← hr]; simp, ?_⟩
  · unfold und back
    rw [if_pos hv, if_neg (by omega), e1]
    simp only [e2, Int.toNat_natCast, cutL, e3, e4]
  · intro s hs
    rw [← hr, List.drop_left] at hs
    have := (grown_later (l := x.es) (r := r) (by rw [hr]; exact hv1) (s := s)).2 (mem_snm.1 hs)
    rw [hr] at this
    intro c
    rw [c] at this
    omega
/-- P14.3: Undo to the beginning -/
theorem all_law {x : Lg} (hv : lval x = true) : und x 0 = (noLg, (hold x.es).map (fun a => ⟨a.n, ⟨0, 0⟩⟩), 0) := by
  obtain ⟨⟨hv1, _⟩, _⟩ := lval_get hv
  rw [hold_valid hv1]
  unfold und back
  rw [if_pos hv, if_pos rfl]
  simp [cutL, noLg, says, held_nil]
/-- P14.4: Drop forgets one name and changes nothing that is said of others, here and behind each savepoint -/
theorem forget_law {x : Lg} {s : List UInt8} {lb : Int} (hd : (drp x s).2 = true) : (und x lb).2.2 = (und (drp x s).1 lb).2.2 ∧ x.ss.length = (drp x s).1.ss.length ∧
    (∀ t, held (drp x s).1.es t = if t = s then ⟨0, 0⟩ else held x.es t) ∧ (∀ t, held (und (drp x s).1 lb).1.es t = if t = s then ⟨0, 0⟩ else held (und x lb).1.es t) := by
  have hv2 := drp_valid hd
  obtain ⟨hv, h2⟩ := drp_ok hd
  rw [h2] at hv2 ⊢
  simp only at hv2 ⊢
  obtain ⟨⟨hv1, _⟩, _, hs⟩ := lval_get hv
  have e1 : plo (x.ss.map (less x.es s)) lb = plo x.ss lb := plo_map (f := less x.es s) (fun _ => rfl) lb
  refine ⟨?_, by simp, fun t => held_others, ?_⟩
  · unfold und back
    rw [if_pos hv, if_pos hv2]
    simp only [e1]
    by_cases h0 : lb = 0
    · simp [h0]
    · simp only [if_neg h0]
      cases plo x.ss lb <;> rfl
  · intro t
    unfold und back
    rw [if_pos hv, if_pos hv2]
    simp only [e1]
    by_cases h0 : lb = 0
    · simp [h0, cutL, held_nil]
    · simp only [if_neg h0]
      cases hp : plo x.ss lb with
      | none => simp [noLg, held_nil]
      | some i =>
        obtain ⟨hi, _⟩ := plo_some hp
        obtain ⟨_, _, c, _⟩ := hs i hi hi
        simp only [cutL]
        have e2 : ((x.ss.map (less x.es s)).getD i ⟨0, 0⟩) = less x.es s x.ss[i] := by simp [List.getD, hi]
        have e3 : x.ss.getD i ⟨0, 0⟩ = x.ss[i] := by simp [List.getD, hi]
        rw [e2, e3, less_t c.1 c.2, Int.toNat_natCast]
        have hk : x.ss[i].t.toNat ≤ x.es.length := by omega
        have e4 := nOf_len x.es s hk
        have e5 := others_take x.es s hk
        rw [show (others (x.es.take x.ss[i].t.toNat) s).length = x.ss[i].t.toNat - nOf x.es s x.ss[i].t.toNat by omega, ← e5, held_others]
end CL
