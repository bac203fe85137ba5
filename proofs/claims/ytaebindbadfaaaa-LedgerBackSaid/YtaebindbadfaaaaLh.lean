
/- Plain facts on ledgers: names in order, valid ledgers, what Record, Save, Undo, Count, Drop, Holdings return. No program in sight. -/
import Derived.Test.YtaebindbadfaaaaLg
import Derived.Lib.Hide
namespace CL
open Go.Op (bytesLess)
theorem bs_irr : ∀ a : List UInt8, bytesLess a a = false
  | [] => rfl
  | a :: x => by simp [bytesLess, bs_irr x]
theorem bs_tr : ∀ {a b c : List UInt8}, bytesLess a b = true → bytesLess b c = true → bytesLess a c = true
  | _, [], _, h, _ => by simp [bytesLess] at h
  | _, _ :: _, [], _, h => by simp [bytesLess] at h
  | [], _ :: _, _ :: _, _, _ => by simp [bytesLess]
  | a :: x, b :: y, c :: z, h1, h2 => by
    simp only [bytesLess, Bool.or_eq_true, decide_eq_true_eq, Bool.and_eq_true, beq_iff_eq] at h1 h2 ⊢
    rcases h1 with h1 | ⟨rfl, h1⟩
    · rcases h2 with h2 | ⟨rfl, h2⟩
      · exact .inl (UInt8.lt_trans h1 h2)
      · exact .inl h1
    · rcases h2 with h2 | ⟨rfl, h2⟩
      · exact .inl h2
      · exact .inr ⟨rfl, bs_tr h1 h2⟩
theorem bs_tot : ∀ (a b : List UInt8), bytesLess a b = true ∨ a = b ∨ bytesLess b a = true
  | [], [] => by simp
  | [], _ :: _ => by simp [bytesLess]
  | _ :: _, [] => by simp [bytesLess]
  | a :: x, b :: y => by
    simp only [bytesLess, Bool.or_eq_true, decide_eq_true_eq, Bool.and_eq_true, beq_iff_eq, List.cons.injEq]
    have tri : a < b ∨ a = b ∨ b < a := by
      rcases Nat.lt_trichotomy a.toNat b.toNat with h | h | h
      · exact .inl (UInt8.lt_iff_toNat_lt.2 h)
      · exact .inr (.inl (UInt8.toNat_inj.1 h))
      · exact .inr (.inr (UInt8.lt_iff_toNat_lt.2 h))
    rcases tri with h | rfl | h
    · exact .inl (.inl h)
    · rcases bs_tot x y with h | h | h
      · exact .inl (.inr ⟨rfl, h⟩)
      · exact .inr (.inl ⟨rfl, h⟩)
      · exact .inr (.inr (.inr ⟨rfl, h⟩))
    · exact .inr (.inr (.inl h))
theorem bs_asym {a b : List UInt8} (h : bytesLess a b = true) : bytesLess b a = false := by
  cases k : bytesLess b a
  · rfl
  · have := bs_tr h k; rw [bs_irr] at this; cases this
def Asc (l : List (List UInt8)) : Prop := l.Pairwise (fun a b => bytesLess a b = true)
theorem Asc.uniq {l r : List (List UInt8)} (h : Asc l) (k : Asc r) (hp : l.Perm r) : l = r :=
  List.Perm.eq_of_pairwise (le := fun a b => bytesLess a b = true) (fun a b _ _ h1 h2 => by rw [bs_asym h1] at h2; cases h2) h k hp
def ble (a b : List UInt8) : Bool := !bytesLess b a
theorem asc_sort {l : List (List UInt8)} (h : l.Nodup) : Asc (l.mergeSort ble) := by
  have hp := List.mergeSort_perm l ble
  have h1 := List.pairwise_mergeSort (le := ble) (fun a b c h1 h2 => by
    simp only [ble, Bool.not_eq_true'] at h1 h2 ⊢
    cases k : bytesLess c a
    · rfl
    · rcases bs_tot b c with hb | rfl | hb
      · rw [bs_tr hb k] at h1; cases h1
      · rw [k] at h1; cases h1
      · rw [hb] at h2; cases h2) (fun a b => by
    simp only [ble, Bool.or_eq_true, Bool.not_eq_true']
    rcases bs_tot a b with h | rfl | h
    · exact .inl (bs_asym h)
    · exact .inl (bs_irr _)
    · exact .inr (bs_asym h)) l
  have h2 : (l.mergeSort ble).Nodup := hp.nodup_iff.2 h
  refine (List.pairwise_and_iff.2 ⟨h1, h2⟩).imp fun {a b} hab => ?_
  obtain ⟨hab, hne⟩ := hab
  simp only [ble, Bool.not_eq_true'] at hab
  rcases bs_tot a b with h | h | h
  · exact h
  · exact absurd h hne
  · rw [h] at hab; cases hab
/-- the names of entries, ascending, each once -/
def snm (l : List En) : List (List UInt8) := (dn l).mergeSort ble
theorem snm_asc (l : List En) : Asc (snm l) := asc_sort (dn_nodup l)
theorem snm_perm (l : List En) : (snm l).Perm (dn l) := List.mergeSort_perm _ _
theorem snm_is {l : List En} {r : List (List UInt8)} (h : Asc r) (hp : r.Perm (dn l)) : r = snm l := h.uniq (snm_asc l) (hp.trans (snm_perm l).symm)
theorem mem_snm {l : List En} {s : List UInt8} : s ∈ snm l ↔ ∃ e ∈ l, e.n = s := ((snm_perm l).mem_iff).trans mem_dn
theorem snm_len (l : List En) : (snm l).length = (dn l).length := (snm_perm l).length_eq
/-- the reference's step: a new name is let down to its place -/
theorem snm_snoc_old {l : List En} {e : En} (h : e.n ∈ snm l) : snm (l ++ [e]) = snm l := by
  unfold snm; rw [dn_snoc, if_pos ((snm_perm l).mem_iff.1 h)]
theorem snm_snoc_new {l : List En} {e : En} (h : e.n ∉ snm l) {k : Nat} (_ : k ≤ (snm l).length) (h1 : ∀ i, (hi : i < (snm l).length) → i < k → bytesLess (snm l)[i] e.n = true) (h2 : ∀ i, (hi : i < (snm l).length) → k ≤ i → bytesLess e.n (snm l)[i] = true) :
    (snm l).take k ++ e.n :: (snm l).drop k = snm (l ++ [e]) := by
  refine snm_is ?_ ?_
  · have ha := snm_asc l
    refine List.pairwise_append.2 ⟨ha.sublist (List.take_sublist _ _), List.pairwise_cons.2 ⟨fun b hb => ?_, ha.sublist (List.drop_sublist _ _)⟩, fun a ha' b hb => ?_⟩
    · obtain ⟨i, hi, rfl⟩ := List.getElem_of_mem hb
      rw [List.getElem_drop]; exact h2 _ _ (by omega)
    · obtain ⟨i, hi, rfl⟩ := List.getElem_of_mem ha'
      rw [List.getElem_take]
      have hi2 : i < (snm l).length ∧ i < k := by simp at hi; omega
      rcases List.mem_cons.1 hb with rfl | hb
      · exact h1 i hi2.1 hi2.2
      · obtain ⟨j, hj, rfl⟩ := List.getElem_of_mem hb
        rw [List.getElem_drop]
        exact List.pairwise_iff_getElem.1 ha _ _ _ _ (by omega)
  · rw [dn_snoc, if_neg (fun c => h ((snm_perm l).mem_iff.2 c))]
    refine List.perm_middle.trans ?_
    rw [List.take_append_drop]
    exact ((snm_perm l).cons _).trans (List.perm_append_singleton _ _).symm
/-- what the first j entries have to be -/
def EnTo (l : List En) (j : Nat) : Prop := ∀ i, (hi : i < l.length) → i < j → vname l[i].n = true ∧ l[i].b = held (l.take i) l[i].n ∧ grows l[i].b l[i].a = true
def SvTo (l : List Sv) (n : Nat) (j : Nat) : Prop := ∀ i, (hi : i < l.length) → i < j → (1 ≤ l[i].l ∧ l[i].l ≤ 99) ∧ (∀ k, (hk : k < i) → l[k].l ≠ l[i].l) ∧ (0 ≤ l[i].t ∧ l[i].t ≤ n) ∧ ((h0 : 0 < i) → (l[i - 1]'(by omega)).t ≤ l[i].t)
instance (l : List En) (j : Nat) : Decidable (EnTo l j) := by unfold EnTo; infer_instance
instance (l : List Sv) (n j : Nat) : Decidable (SvTo l n j) := by unfold SvTo; infer_instance
def LV (x : Lg) : Prop := (EnTo x.es x.es.length ∧ (dn x.es).length ≤ 8) ∧ x.ss.length ≤ 4 ∧ SvTo x.ss x.es.length x.ss.length
instance (x : Lg) : Decidable (LV x) := by unfold LV; infer_instance
def lval (x : Lg) : Bool := decide (LV x)
def svs (l : List Sv) (n : Nat) : Bool := decide (l.length ≤ 4 ∧ SvTo l n l.length)
theorem lval_svs {x : Lg} (h : EnTo x.es x.es.length) (h8 : (dn x.es).length ≤ 8) : lval x = svs x.ss x.es.length := by
  simp [lval, LV, h, h8, svs]
theorem EnTo.zero (l : List En) : EnTo l 0 := fun i _ h => by omega
theorem EnTo.step {l : List En} {j : Nat} (h : EnTo l j) (hj : j < l.length) (h1 : vname l[j].n = true) (h2 : l[j].b = held (l.take j) l[j].n) (h3 : grows l[j].b l[j].a = true) : EnTo l (j + 1) := by
  intro i hi hij
  by_cases e : i = j
  · subst e; exact ⟨h1, h2, h3⟩
  · exact h i hi (by omega)
theorem EnTo.pre {l r : List En} {j : Nat} (h : EnTo (l ++ r) j) (hj : l.length ≤ j) : EnTo l l.length := by
  intro i hi hij
  have := h i (by simp; omega) (by omega)
  simp only [List.getElem_append_left hi] at this
  rwa [List.take_append_of_le_length (by omega)] at this
theorem lval_en {x : Lg} {j : Nat} (hj : j < x.es.length) (h : ¬ (vname x.es[j].n = true ∧ x.es[j].b = held (x.es.take j) x.es[j].n ∧ grows x.es[j].b x.es[j].a = true)) : lval x = false :=
  decide_eq_false (fun c => h (c.1.1 j hj hj))
theorem lval_dn {x : Lg} (h : 8 < (dn x.es).length) : lval x = false := decide_eq_false (fun c => by have := c.1.2; omega)
theorem lval_ss {x : Lg} (h : 4 < x.ss.length) : lval x = false := decide_eq_false (fun c => by have := c.2.1; omega)
theorem lval_get {x : Lg} (h : lval x = true) : LV x := of_decide_eq_true h
/- no valid ledger has more than 64 entries -/
theorem sum_upd {α : Type} [DecidableEq α] (f g : α → Nat) (a : α) (d : Nat) (hg : ∀ x, g x = if x = a then f x + d else f x) : ∀ l : List α, l.Nodup → a ∈ l → (l.map g).sum = (l.map f).sum + d
  | [], _, h => by simp at h
  | b :: r, hn, h => by
    obtain ⟨hb, hr⟩ := List.nodup_cons.1 hn
    by_cases e : b = a
    · subst e
      have : r.map g = r.map f := List.map_congr_left (fun x hx => by rw [hg, if_neg (fun e => hb (by rw [← e]; exact hx))])
      simp only [List.map_cons, List.sum_cons, this]
      rw [hg, if_pos rfl]; omega
    · have := sum_upd f g a d hg r hr ((List.mem_cons.1 h).resolve_left (fun e' => e e'.symm))
      simp only [List.map_cons, List.sum_cons, this]
      rw [hg, if_neg e]; omega
theorem sum_le {α : Type} {f g : α → Nat} (h : ∀ x, f x ≤ g x) : ∀ l : List α, (l.map f).sum ≤ (l.map g).sum
  | [] => by simp
  | b :: r => by have := sum_le h r; have := h b; simp; omega
theorem en_sum (l : List En) : EnTo l l.length → l.length ≤ ((dn l).map (fun s => rank (held l s))).sum := by
  induction l using rev_ind with
  | h0 => intro _; simp
  | h1 l e ih =>
    intro h
    have h1 := ih (h.pre (by simp))
    have h2 := h l.length (by simp) (by simp)
    simp only [List.getElem_concat_length, List.take_left'] at h2
    have h3 := grows_rank h2.2.2
    rw [h2.2.1] at h3
    have hup : ∀ L : List (List UInt8), L.Nodup → e.n ∈ L → (L.map (fun s => rank (held l s))).sum + 1 ≤ (L.map (fun s => rank (held (l ++ [e]) s))).sum := by
      intro L hn hm
      have := sum_upd (fun s => rank (held l s)) (fun s => rank (held (l ++ [e]) s)) e.n (rank e.a - rank (held l e.n)) (fun s => by
        rw [held_snoc]
        by_cases hs : e.n = s
        · subst hs; simp; omega
        · rw [if_neg hs, if_neg (fun c => hs c.symm)]) L hn hm
      rw [this]; omega
    rw [dn_snoc]
    split
    · rename_i hm
      have := hup (dn l) (dn_nodup l) hm
      simp; omega
    · rename_i hm
      have hz : held l e.n = ⟨0, 0⟩ := held_out (fun x hx he => hm (mem_dn.2 ⟨x, hx, he⟩))
      have h4 : ((dn l).map (fun s => rank (held (l ++ [e]) s))).sum = ((dn l).map (fun s => rank (held l s))).sum := by
        congr 1
        exact List.map_congr_left (fun s hs => by rw [held_snoc, if_neg (fun c => hm (by rw [c]; exact hs))])
      rw [List.map_append, List.sum_append, h4]
      simp only [List.map_cons, List.map_nil, List.sum_cons, List.sum_nil, held_snoc, if_true, List.length_append, List.length_cons, List.length_nil]
      omega
theorem held_rank {l : List En} (h : EnTo l l.length) (s : List UInt8) : rank (held l s) ≤ 8 := by
  revert h
  induction l using rev_ind with
  | h0 => intro _; simp [held_nil, rank]
  | h1 l e ih =>
    intro h
    have h2 := h l.length (by simp) (by simp)
    simp only [List.getElem_concat_length, List.take_left'] at h2
    rw [held_snoc]
    split
    · exact (grows_rank h2.2.2).2
    · exact ih (h.pre (by simp))
theorem lval_len {x : Lg} (h : lval x = true) : x.es.length ≤ 64 := by
  obtain ⟨⟨h1, h2⟩, _⟩ := lval_get h
  have h3 := en_sum x.es h1
  have h4 := sum_le (g := fun _ => 8) (fun s => held_rank h1 s) (dn x.es)
  rw [List.map_const', List.sum_replicate_nat] at h4
  have : (dn x.es).length * 8 ≤ 8 * 8 := Nat.mul_le_mul_right 8 h2
  omega
end CL
