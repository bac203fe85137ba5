
/- Plain: ledgers stay valid under Record, Save and Drop; what Undo gives back. No program in sight. -/
import Derived.Test.YtaebindbadfaaaaLi
namespace CL
open Go.Op (bytesLess)
theorem lval_nil : lval noLg = true := by decide
theorem rcd_ok {x : Lg} {e : En} (h : (rcd x e).2 = 0) : lval x = true ∧ rcd x e = (⟨x.es ++ [e], x.ss⟩, 0) ∧ lval ⟨x.es ++ [e], x.ss⟩ = true := by
  unfold rcd at h ⊢
  by_cases h1 : lval x = true
  · rw [if_pos h1] at h ⊢
    by_cases h2 : lval ⟨x.es ++ [e], x.ss⟩ = true
    · rw [if_pos h2]; exact ⟨h1, rfl, h2⟩
    · rw [if_neg h2] at h; simp at h
  · rw [if_neg h1] at h; simp at h
theorem rcd_no {x : Lg} {e : En} (h : (rcd x e).2 ≠ 0) : (rcd x e).1 = noLg := by
  unfold rcd at h ⊢
  by_cases h1 : lval x = true
  · rw [if_pos h1] at h ⊢
    by_cases h2 : lval ⟨x.es ++ [e], x.ss⟩ = true
    · rw [if_pos h2] at h; simp at h
    · rw [if_neg h2]
  · rw [if_neg h1]
theorem sav_no {x : Lg} {lb : Int} (h : (sav x lb).2 ≠ 0) : (sav x lb).1 = noLg := by
  unfold sav at h ⊢
  split
  · split
    · rfl
    · split
      · rfl
      · split
        · rfl
        · simp_all
  · rfl
theorem sav_ok {x : Lg} {lb : Int} (h : (sav x lb).2 = 0) : lval x = true ∧ sav x lb = (⟨x.es, x.ss ++ [⟨lb, x.es.length⟩]⟩, 0) ∧ (1 ≤ lb ∧ lb ≤ 99) ∧ plo x.ss lb = none ∧ x.ss.length < 4 := by
  unfold sav at h ⊢
  by_cases h1 : lval x = true
  · rw [if_pos h1] at h ⊢
    by_cases h2 : lb < 1 ∨ 99 < lb
    · rw [if_pos h2] at h; simp at h
    · rw [if_neg h2] at h ⊢
      by_cases h3 : 0 ≤ plc x.ss lb
      · rw [if_pos h3] at h; simp at h
      · rw [if_neg h3] at h ⊢
        by_cases h4 : 4 ≤ x.ss.length
        · rw [if_pos h4] at h; simp at h
        · rw [if_neg h4]
          refine ⟨h1, rfl, by omega, ?_, by omega⟩
          cases hp : plo x.ss lb with
          | none => rfl
          | some i => simp [plc, hp] at h3
  · rw [if_neg h1] at h; simp at h
theorem SvTo.grow {l : List Sv} {n n' j : Nat} (h : SvTo l n j) (hn : n ≤ n') : SvTo l n' j := fun i hi hij => by
  obtain ⟨a, b, c, d⟩ := h i hi hij
  exact ⟨a, b, ⟨c.1, by omega⟩, d⟩
theorem SvTo.snoc {l : List Sv} {n : Nat} (h : SvTo l n l.length) {v : Sv} (hl : 1 ≤ v.l ∧ v.l ≤ 99) (hp : PTo l v.l l.length) (ht : v.t = n) : SvTo (l ++ [v]) n (l ++ [v]).length := by
  intro i hi _
  simp at hi
  by_cases e : i < l.length
  · obtain ⟨a, b, c, d⟩ := h i e e
    simp only [List.getElem_append_left e]
    refine ⟨a, fun k hk => ?_, c, fun h0 => ?_⟩
    · rw [List.getElem_append_left (by omega)]; exact b k hk
    · rw [List.getElem_append_left (by omega)]; exact d h0
  · obtain rfl : i = l.length := by omega
    simp only [List.getElem_concat_length]
    refine ⟨hl, fun k hk => ?_, by omega, fun h0 => ?_⟩
    · rw [List.getElem_append_left hk]; exact hp k hk hk
    · rw [List.getElem_append_left (by omega)]
      have := (h (l.length - 1) (by omega) (by omega)).2.2.1.2
      omega
theorem sav_valid {x : Lg} {lb : Int} (h : (sav x lb).2 = 0) : lval (sav x lb).1 = true := by
  obtain ⟨h1, h2, h3, h4, h5⟩ := sav_ok h
  rw [h2]
  obtain ⟨a, b, c⟩ := lval_get h1
  exact decide_eq_true ⟨a, by simp; omega, SvTo.snoc c h3 (plo_out h4) rfl⟩
/- what others' entries say when one name is struck -/
theorem held_others {l : List En} {s t : List UInt8} : held (others l s) t = if t = s then ⟨0, 0⟩ else held l t := by
  induction l using rev_ind with
  | h0 => simp [others, held_nil]
  | h1 l e ih =>
    have : others (l ++ [e]) s = if e.n = s then others l s else others l s ++ [e] := by
      unfold others; rw [List.filter_append]; by_cases h : e.n = s <;> simp [h]
    rw [this, held_snoc]
    by_cases h : e.n = s
    · rw [if_pos h, ih]
      by_cases h2 : t = s
      · simp [h2]
      · rw [if_neg h2, if_neg h2, if_neg (fun c => h2 (c.symm.trans h))]
    · rw [if_neg h, held_snoc, ih]
      by_cases h2 : t = s
      · rw [if_neg (fun c => h (c.trans h2)), if_pos h2, if_pos h2]
      · rw [if_neg h2, if_neg h2]
theorem others_snoc (l : List En) (e : En) (s : List UInt8) : others (l ++ [e]) s = if e.n = s then others l s else others l s ++ [e] := by
  unfold others; rw [List.filter_append]; by_cases h : e.n = s <;> simp [h]
theorem dn_others {l : List En} {s : List UInt8} : (dn (others l s)).length ≤ (dn l).length := by
  induction l using rev_ind with
  | h0 => simp [others]
  | h1 l e ih =>
    rw [others_snoc, dn_snoc]
    have hm : e.n ≠ s → (e.n ∈ dn (others l s) ↔ e.n ∈ dn l) := by
      intro hne
      rw [mem_dn, mem_dn]
      constructor
      · rintro ⟨x, hx, h⟩; exact ⟨x, (List.mem_filter.1 hx).1, h⟩
      · rintro ⟨x, hx, h⟩; exact ⟨x, List.mem_filter.2 ⟨hx, by simp [h, hne]⟩, h⟩
    by_cases h : e.n = s
    · rw [if_pos h]; split <;> simp <;> omega
    · rw [if_neg h, dn_snoc]
      by_cases h2 : e.n ∈ dn l
      · rw [if_pos h2, if_pos ((hm h).2 h2)]; exact ih
      · rw [if_neg h2, if_neg (fun c => h2 ((hm h).1 c))]; simp; omega
theorem EnTo.snoc {l : List En} {e : En} (h : EnTo l l.length) (k : vname e.n = true ∧ e.b = held l e.n ∧ grows e.b e.a = true) : EnTo (l ++ [e]) (l ++ [e]).length := by
  intro i hi _
  simp at hi
  by_cases e' : i < l.length
  · have := h i e' e'
    simp only [List.getElem_append_left e', List.take_append_of_le_length (Nat.le_of_lt e')]
    exact this
  · obtain rfl : i = l.length := by omega
    simp only [List.getElem_concat_length, List.take_left']
    exact k
theorem EnTo.last {l : List En} {e : En} (h : EnTo (l ++ [e]) (l ++ [e]).length) : EnTo l l.length ∧ vname e.n = true ∧ e.b = held l e.n ∧ grows e.b e.a = true := by
  refine ⟨h.pre (by simp), ?_⟩
  have := h l.length (by simp) (by simp)
  simpa only [List.getElem_concat_length, List.take_left'] using this
theorem EnTo.others {l : List En} (s : List UInt8) : EnTo l l.length → EnTo (others l s) (others l s).length := by
  induction l using rev_ind with
  | h0 => intro _ i hi; simp [CL.others] at hi
  | h1 l e ih =>
    intro h
    obtain ⟨h1, h2, h3, h4⟩ := h.last
    rw [others_snoc]
    by_cases he : e.n = s
    · rw [if_pos he]; exact ih h1
    · rw [if_neg he]
      exact (ih h1).snoc ⟨h2, by rw [held_others, if_neg he]; exact h3, h4⟩
theorem nOf_len (l : List En) (s : List UInt8) {k : Nat} (hk : k ≤ l.length) : (others (l.take k) s).length + nOf l s k = k := by
  have : ∀ m : List En, (others m s).length + (m.filter (fun e => decide (e.n = s))).length = m.length := by
    intro m
    induction m with
    | nil => rfl
    | cons e r ih =>
      unfold CL.others at ih ⊢
      by_cases h : e.n = s <;> simp [h] <;> omega
  have := this (l.take k)
  rw [List.length_take, Nat.min_eq_left hk] at this
  exact this
theorem nOf_le (l : List En) (s : List UInt8) (k : Nat) : nOf l s k ≤ k := by
  unfold nOf
  have := List.length_filter_le (fun e : En => decide (e.n = s)) (l.take k)
  rw [List.length_take] at this
  omega
theorem others_take (l : List En) (s : List UInt8) {k : Nat} (hk : k ≤ l.length) : others (l.take k) s = (others l s).take (k - nOf l s k) := by
  have h1 : others l s = others (l.take k) s ++ others (l.drop k) s := by
    unfold CL.others; rw [← List.filter_append, List.take_append_drop]
  have h2 := nOf_len l s hk
  rw [h1, show k - nOf l s k = (others (l.take k) s).length by omega, List.take_left]
theorem others_len_mono (l : List En) (s : List UInt8) {a b : Nat} (h : a ≤ b) : (others (l.take a) s).length ≤ (others (l.take b) s).length := by
  unfold CL.others
  have : (l.take a).Sublist (l.take b) := by
    rw [show l.take a = (l.take b).take a by rw [List.take_take, Nat.min_eq_left h]]
    exact List.take_sublist _ _
  exact (this.filter _).length_le
theorem less_t {l : List En} {s : List UInt8} {v : Sv} (h0 : 0 ≤ v.t) (hn : v.t ≤ l.length) : (less l s v).t = ((others (l.take v.t.toNat) s).length : Int) := by
  have := nOf_len l s (k := v.t.toNat) (by omega)
  show v.t - (nOf l s v.t.toNat : Int) = _
  omega
theorem SvTo.less {l : List En} {ss : List Sv} (s : List UInt8) (h : SvTo ss l.length ss.length) : SvTo (ss.map (less l s)) (CL.others l s).length (ss.map (CL.less l s)).length := by
  intro i hi _
  rw [List.length_map] at hi
  obtain ⟨a, b, c, d⟩ := h i hi hi
  simp only [List.getElem_map]
  refine ⟨a, b, ?_, fun h0 => ?_⟩
  · rw [less_t c.1 c.2]
    have := others_len_mono l s (a := ss[i].t.toNat) (b := l.length) (by omega)
    rw [List.take_length] at this
    omega
  · have d' := d h0
    obtain ⟨_, _, c', _⟩ := h (i - 1) (by omega) (by omega)
    rw [less_t c.1 c.2, less_t c'.1 c'.2]
    have := others_len_mono l s (a := (ss[i-1]'(by omega)).t.toNat) (b := ss[i].t.toNat) (by omega)
    omega
theorem drp_ok {x : Lg} {s : List UInt8} (h : (drp x s).2 = true) : lval x = true ∧ drp x s = (⟨others x.es s, x.ss.map (less x.es s)⟩, true) := by
  unfold drp at h ⊢
  by_cases h1 : lval x = true
  · rw [if_pos h1] at h ⊢
    by_cases h2 : (others x.es s).length = x.es.length
    · rw [if_pos h2] at h; cases h
    · rw [if_neg h2]; exact ⟨h1, rfl⟩
  · rw [if_neg h1] at h; cases h
theorem drp_no {x : Lg} {s : List UInt8} (hv : lval x = true) (h : (drp x s).2 = false) : (others x.es s) = x.es := by
  unfold drp at h
  rw [if_pos hv] at h
  by_cases h2 : (others x.es s).length = x.es.length
  · exact List.filter_sublist.eq_of_length h2
  · rw [if_neg h2] at h; cases h
theorem drp_nil {x : Lg} {s : List UInt8} (h : (drp x s).2 = false) : (drp x s).1 = noLg := by
  unfold drp at h ⊢
  split
  · split
    · rfl
    · simp_all
  · rfl
theorem drp_valid {x : Lg} {s : List UInt8} (h : (drp x s).2 = true) : lval (drp x s).1 = true := by
  obtain ⟨h1, h2⟩ := drp_ok h
  rw [h2]
  obtain ⟨⟨a, b⟩, c, d⟩ := lval_get h1
  exact decide_eq_true ⟨⟨a.others s, Nat.le_trans dn_others b⟩, by simpa using c, SvTo.less s d⟩
theorem plo_map {l : List Sv} {f : Sv → Sv} (hf : ∀ v, (f v).l = v.l) (lb : Int) : plo (l.map f) lb = plo l lb := by
  unfold plo
  rw [List.findIdx?_map]
  congr 1
  funext v
  simp [hf]
end CL
