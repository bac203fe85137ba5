
/- The walks that list the atoms of a valid expression. -/
import Derived.Test.YtmboojbhnmdnkaaPr
namespace Go.Proofs.Ytmboojbhnmdnkaa
open Go.RowKit
set_option linter.unusedVariables false
def ixo (l : List CL.At) (a : CL.At) : Option Nat := l.findIdx? (fun b => decide (b = a))
def ixi (l : List CL.At) (a : CL.At) : Int := match ixo l a with | none => -1 | some i => (i : Int)
theorem ixo_hit {l : List CL.At} {a : CL.At} {j : Nat} (h : a ∉ l.take j) (hj : j < l.length) (e : a = l[j]) : ixo l a = some j := by
  unfold ixo
  rw [List.findIdx?_eq_some_iff_getElem]
  refine ⟨hj, by simp [e], fun i hi => ?_⟩
  simp only [decide_eq_true_eq]
  intro he
  refine h ?_
  rw [List.mem_take_iff_getElem]
  exact ⟨i, by omega, he⟩
theorem ixo_none {l : List CL.At} {a : CL.At} (h : a ∉ l) : ixo l a = none := by
  unfold ixo
  rw [List.findIdx?_eq_none_iff]
  intro x hx
  simp only [decide_eq_false_iff_not]
  intro e; subst e; exact h hx
theorem ixi_hit {l : List CL.At} {a : CL.At} {j : Nat} (h : a ∉ l.take j) (hj : j < l.length) (e : a = l[j]) : ixi l a = j := by unfold ixi; rw [ixo_hit h hj e]
theorem ixi_none {l : List CL.At} {a : CL.At} {j : Nat} (h : a ∉ l.take j) (hj : l.length ≤ j) : ixi l a = -1 := by
  rw [List.take_of_length_le hj] at h
  unfold ixi; rw [ixo_none h]
theorem out_step {l : List CL.At} {a : CL.At} {j : Nat} (h : a ∉ l.take j) (hj : j < l.length) (e : ¬ a = l[j]) : a ∉ l.take (j + 1) := by
  rw [List.take_succ_eq_append_getElem hj]
  simp only [List.mem_append, List.mem_singleton, not_or]
  exact ⟨h, e⟩
theorem ixi_mem (l : List CL.At) (a : CL.At) : decide (0 ≤ ixi l a) = decide (a ∈ l) := by
  by_cases h : a ∈ l
  · obtain ⟨i, hi, e⟩ : ∃ i, ixo l a = some i ∧ True := by
      cases hh : ixo l a with
      | none =>
        unfold ixo at hh
        rw [List.findIdx?_eq_none_iff] at hh
        simpa using hh a h
      | some i => exact ⟨i, rfl, trivial⟩
    simp [ixi, hi, h]
  · simp [ixi, ixo_none h, h]
theorem ixi_lt (l : List CL.At) (a : CL.At) : ixi l a < l.length := by
  unfold ixi
  split
  · omega
  · rename_i i h
    unfold ixo at h
    rw [List.findIdx?_eq_some_iff_getElem] at h
    obtain ⟨h, _⟩ := h; omega
set_option maxHeartbeats 800000 in
theorem atIndex_c (l : List CL.At) (a : CL.At) (A : Option Addr) (c : Nat) (w : World) (hl : l.length ≤ maxLen) (hr : Sits w A (ats l)) :
    Calls Try.prog 60 #[.slice A l.length c, .agg #[.string ⟨a.n.toArray⟩, .int .i64 a.a.m, .int .i64 a.a.u]] w fun r w' => r = .returned (.int .i64 (ixi l a)) ∧ Ext w w' := by
  unfold maxLen at hl
  obtain ⟨nm, m, u⟩ := a
  have hg := at_guard
  have HN : Hid ((⟨nm, ⟨m, u⟩⟩ : CL.At) ∉ l.take 0) := Lib.hid (by simp)
  obtain ⟨bE, hx0⟩ := box1 w #[.string ⟨nm.toArray⟩, .int .i64 m, .int .i64 u] 25
  go_enter Try.func60, Try.ntmps60
  go_wp2
  generalize (w.alloc (.cells #[.string ⟨nm.toArray⟩, .int .i64 m, .int .i64 u] 25)) = w1 at *
  go_loopw [8] (fun i wr => ∃ j : Nat, j ≤ l.length ∧ i = .int .i64 j ∧ Ext w1 wr ∧ Hid ((⟨nm, ⟨m, u⟩⟩ : CL.At) ∉ l.take j)) (fun i _ => l.length - (intOf i).toNat)
  case atStart => exact ⟨0, by omega, rfl, Ext.rfl', HN⟩
  case round =>
    obtain ⟨j, hj, rfl, hx, HJ⟩ := hrel
    have hx2 := hx0.tr hx
    by_cases hlt : j < l.length
    · obtain ⟨b, o, rfl, c0, c1, c2⟩ := (hr.ext hx2).atoms hlt
      have H1 := Lib.hid (ixi_hit HJ.out hlt)
      have H3 := Lib.hid (out_step HJ.out hlt)
      have bEr := bE.ext hx
      have q0 := ExtOf.cell (bEr.cell 0)
      have q1 := ExtOf.cell (bEr.cell 1)
      have q2 := ExtOf.cell (bEr.cell 2)
      generalize l[j] = x at *
      obtain ⟨xn, xm, xu⟩ := x
      simp only at c0 c1 c2
      have q3 := ExtOf.cell c0
      have q4 := ExtOf.cell c1
      have q5 := ExtOf.cell c2
      have hq := at_eql nm xn m u xm xu
      by_cases heq : (⟨nm, ⟨m, u⟩⟩ : CL.At) = ⟨xn, ⟨xm, xu⟩⟩
      · have H4 := Lib.hid (H1.out heq)
        rw [decide_eq_true heq] at hq
        clear heq c0 c1 c2
        go_wp2_with fail
        refine wp_region_ext_lit (by kernel_rfl) (by kernel_rfl) ?_
        repeat (go_big_quiet_step (fail))
        refine wpQuiet_nil ?_
        intro wq hw'
        obtain ⟨⟨wq', hxq⟩, hw''⟩ := hw'
        subst hw''
        go_wp2
        go_ret
        exact ⟨ret_int H4.out.symm, hx2.tr hxq⟩
      · have H4 := Lib.hid (H3.out heq)
        rw [decide_eq_false heq] at hq
        clear heq c0 c1 c2
        go_wp2_with fail
        refine wp_region_ext_lit (by kernel_rfl) (by kernel_rfl) ?_
        repeat (go_big_quiet_step (fail))
        refine wpQuiet_nil ?_
        intro wq hw'
        obtain ⟨⟨wq', hxq⟩, hw''⟩ := hw'
        subst hw''
        go_wp2
        exact ⟨⟨j + 1, by omega, by go_num, hx.tr hxq, H4⟩, by simp [intOf]; omega⟩
    · have H4 := Lib.hid (ixi_none HJ.out (by omega))
      go_wp2
      go_ret
      exact ⟨ret_int H4.out.symm, hx2⟩
theorem atContains_c (l : List CL.At) (a : CL.At) (A : Option Addr) (c : Nat) (w : World) (hl : l.length ≤ maxLen) (hr : Sits w A (ats l)) :
    Calls Try.prog 44 #[.slice A l.length c, .agg #[.string ⟨a.n.toArray⟩, .int .i64 a.a.m, .int .i64 a.a.u]] w fun r w' => r = .returned (.bool (decide (a ∈ l))) ∧ Ext w w' := by
  have HM := Lib.hid (ixi_mem l a)
  have hx0 := Ext.new w (.cells #[.string ⟨a.n.toArray⟩, .int .i64 a.a.m, .int .i64 a.a.u] 25)
  go_enter Try.func44, Try.ntmps44
  go_wp2_with (go_at_call 60; (with_reducible refine (atIndex_c l a _ _ _ hl (hr.ext hx0)).mono ?_); rintro r w' ⟨rfl, hx⟩)
  go_ret
  exact ⟨ret_bool HM.out, hx0.tr hx⟩
/-- the list that a walk gives back, a row of its own -/
def OwnAts (base : Nat) (l : List CL.At) (w : World) (r : Ending) (w' : World) : Prop := ∃ v, r = .returned v ∧ w'.ownsRow base 25 3 v l.length (ats l) ∧ Below base w w'
theorem collL_step {kids : List CL.Ex} {j : Nat} {l : List CL.At} (hj : j < kids.length) : CL.collL (kids.drop j) l = CL.collL (kids.drop (j + 1)) (CL.coll kids[j] l) := by
  rw [List.drop_eq_getElem_cons hj]; simp only [CL.collL]
theorem collL_end {kids : List CL.Ex} {j : Nat} {l : List CL.At} (hj : kids.length ≤ j) : CL.collL (kids.drop j) l = l := by
  rw [List.drop_eq_nil_of_le hj]; simp only [CL.collL]
theorem coll_mono (e : CL.Ex) : ∀ l : List CL.At, l.length ≤ (CL.coll e l).length := by
  induction e using CL.Ex.ind with
  | h k a kids ih =>
    have hL : ∀ (ks : List CL.Ex), (∀ e ∈ ks, ∀ l : List CL.At, l.length ≤ (CL.coll e l).length) → ∀ l : List CL.At, l.length ≤ (CL.collL ks l).length := by
      intro ks
      induction ks with
      | nil => intro _ l; simp [CL.collL]
      | cons e ks ihk =>
        intro hk l
        simp only [CL.collL]
        exact Nat.le_trans (hk e (by simp) l) (ihk (fun x hx => hk x (by simp [hx])) _)
    intro l
    simp only [CL.coll]
    split
    · split <;> simp
    · exact hL kids ih l
theorem collL_mono (ks : List CL.Ex) : ∀ l : List CL.At, l.length ≤ (CL.collL ks l).length := by
  induction ks with
  | nil => intro l; simp [CL.collL]
  | cons e ks ih => intro l; simp only [CL.collL]; exact Nat.le_trans (coll_mono e l) (ih _)
set_option maxHeartbeats 1600000 in
theorem formula.collect_c (e : CL.Ex) : ∀ (w : World) (B : Nat) (cs : List Value) (l : List CL.At) (base : Nat) (A : Option Addr) (c : Nat), Rd w B e cs → B ≤ base → base ≤ w.heap.size → w.ownsRow base 25 3 (.slice A l.length c) l.length (ats l) → (CL.coll e l).length ≤ 8 →
    Calls Try.prog 33 #[.slice A l.length c, .agg cs.toArray] w (OwnAts base (CL.coll e l) w) := by
  induction e using CL.Ex.ind with
  | h k a kids ih =>
    intro w B cs l base A0 c0 hR hBb hbs hown h8
    obtain ⟨A, c, rfl, hnm, hkl, hkc, hK⟩ := hR.inv
    obtain ⟨nm, m, u⟩ := a
    have IH := Lib.hid ih
    clear ih hR
    unfold maxLen at hkl
    have hl8 : l.length ≤ 8 := Nat.le_trans (coll_mono _ _) h8
    obtain ⟨bE, hx0⟩ := box1 w #[.int .i64 k, .string ⟨nm.toArray⟩, .int .i64 m, .int .i64 u, .slice A kids.length c] 28
    have hz0 := hx0.size
    by_cases hkids : kids = []
    · subst hkids
      simp only [List.length_nil] at bE hx0 hz0
      by_cases hm : (⟨nm, ⟨m, u⟩⟩ : CL.At) ∈ l
      · have HP := Lib.hid (show CL.coll (.mk k ⟨nm, ⟨m, u⟩⟩ []) l = l by simp [CL.coll, hm])
        have hd := decide_eq_true hm
        clear hm
        go_enter Try.func33, Try.ntmps33
        go_wp2_with (go_at_call 44; (with_reducible refine (atContains_c l ⟨nm, ⟨m, u⟩⟩ _ _ _ (by unfold maxLen; omega) ((Sits.of_own hown).ext hx0)).mono ?_); rintro r w' ⟨rfl, hx⟩)
        go_ret
        rw [HP.out]
        exact ⟨_, rfl, own_ext hown (hx0.tr hx), (hx0.tr hx).mono hbs⟩
      · have HP := Lib.hid (show CL.coll (.mk k ⟨nm, ⟨m, u⟩⟩ []) l = l ++ [⟨nm, ⟨m, u⟩⟩] by simp [CL.coll, hm])
        have hd := decide_eq_false hm
        clear hm
        go_enter Try.func33, Try.ntmps33
        go_wp2_with (first
          | (go_at_call 44; (with_reducible refine (atContains_c l ⟨nm, ⟨m, u⟩⟩ _ _ _ (by unfold maxLen; omega) ((Sits.of_own hown).ext hx0)).mono ?_); rintro r w' ⟨rfl, hx⟩; obtain ⟨e0, e1, e2, e3, e4⟩ := (bE.ext hx).c5; have hz1 := hx.size)
          | (at_builtin; refine wpList_append_sits _ rfl (.tmp 16) (.tmp 19) _ rfl base 25 3 32 _ Try.underlying29 at_info rfl (by omega) _ _ _ rfl ((own_ext hown (hx0.tr hx)).alloc _) _ _ _ [.string ⟨nm.toArray⟩, .int .i64 m, .int .i64 u] rfl rfl (Sits.new _ _ _) (by simp [Value.oneCell']) (by simp only [maxLen]; omega) (by omega) (by simp; omega) ?_; intro v3 w3 hown3 hb3 hg3))
        go_ret
        rw [HP.out]
        refine ⟨_, rfl, ?_, (((hx0.tr hx).mono hbs).alloc (by omega) _).trans hb3⟩
        rw [ats_snoc, List.length_append]; exact hown3
    · have hkl0 : ((kids.length : Int) == 0) = false := beq_eq_false_iff_ne.2 (fun h => hkids (List.eq_nil_of_length_eq_zero (by omega)))
      have HP := Lib.hid (show CL.coll (.mk k ⟨nm, ⟨m, u⟩⟩ kids) l = CL.collL kids l by simp only [CL.coll]; rw [if_neg hkids])
      have H8 := Lib.hid (show (CL.collL kids l).length ≤ 8 by rw [← HP.out]; exact h8)
      have HOWN := Lib.hid (own_ext hown hx0)
      clear h8 hown
      go_enter Try.func33, Try.ntmps33
      go_wp2
      generalize (w.alloc (.cells #[.int .i64 k, .string ⟨nm.toArray⟩, .int .i64 m, .int .i64 u, .slice A kids.length c] 28)) = w1 at *
      go_loopw [0, 24] (fun v i wr => ∃ (j : Nat) (l' : List CL.At) (A' : Option Addr) (c' : Nat), j ≤ kids.length ∧ i = .int .i64 j ∧ v = .slice A' l'.length c' ∧ Hid (wr.ownsRow base 25 3 (.slice A' l'.length c') l'.length (ats l')) ∧ Below base w wr ∧ Hid (CL.collL kids l = CL.collL (kids.drop j) l')) (fun _ i _ => kids.length - (intOf i).toNat)
      case atStart => exact ⟨0, l, _, _, by omega, rfl, rfl, HOWN, hx0.mono hbs, Lib.hid (by simp)⟩
      case round =>
        obtain ⟨j, l', A', c', hj, rfl, rfl, HO, hbl, HL⟩ := hrel
        have hsz := hbl.size
        by_cases hlt : j < kids.length
        · have hKr := hK.below (hbl.mono hBb)
          obtain ⟨b, o, k1, s1, m1, u1, A1, l1, x1, rfl, hbB, hR, c0, c1, c2, c3, c4⟩ := hKr.get hlt
          have HS := Lib.hid (collL_step (l := l') hlt)
          have h8 : (CL.coll kids[j] l').length ≤ 8 := by
            refine Nat.le_trans (collL_mono (kids.drop (j + 1)) _) ?_
            rw [← HS.out, ← HL.out]; exact H8.out
          have hm := List.getElem_mem hlt
          generalize kids[j] = e at *
          have hbx : b ≠ wr.heap.size := by omega
          have hBw : B ≤ wr.heap.size := by omega
          go_wp2_with (go_at_call 33; (with_reducible refine (IH.out e hm _ B _ l' base A' c' (hR.kept ((Below.refl _ _).alloc hBw _)) hBb (by simp; omega) (HO.out.alloc _) h8).mono ?_); rintro r w' ⟨v, rfl, hown', hb'⟩; obtain ⟨A2, c2, rfl, _, _⟩ := own_form hown')
          exact ⟨⟨j + 1, _, A2, c2, by omega, by go_num, rfl, hown', (hbl.alloc (by omega) _).trans hb', Lib.hid (by rw [HL.out, HS.out])⟩, by simp [intOf]; omega⟩
        · go_wp2
          go_ret
          rw [HP.out, HL.out, collL_end (by omega)]
          exact ⟨_, rfl, HO.out, hbl⟩
theorem formula.collect_0 (e : CL.Ex) (w : World) (B : Nat) (cs : List Value) (base : Nat) (hR : Rd w B e cs) (hB : B ≤ base) (hb : base ≤ w.heap.size) (h8 : (CL.coll e []).length ≤ 8) :
    Calls Try.prog 33 #[.slice none 0 0, .agg cs.toArray] w (OwnAts base (CL.coll e []) w) := formula.collect_c e w B cs [] base none 0 hR hB hb ⟨rfl, .inl ⟨rfl, rfl⟩⟩ h8
theorem formula.Atoms_c (e : CL.Ex) (w : World) (B : Nat) (cs : List Value) (hR : Rd w B e cs) (hB : B ≤ w.heap.size) : Calls Try.prog 13 #[.agg cs.toArray] w (OwnAts w.heap.size (CL.atoms e) w) := by
  obtain ⟨k, s, m, u, A, l, c, rfl⟩ := hR.shape
  obtain ⟨bE, hx0⟩ := box1 w #[.int .i64 k, .string s, .int .i64 m, .int .i64 u, .slice A l c] 28
  have hz0 := hx0.size
  cases hv : CL.valid e
  · have HA := Lib.hid (show CL.atoms e = [] by simp [CL.atoms, hv])
    go_enter Try.func13, Try.ntmps13
    go_wp2_with (go_at_call 32; (with_reducible refine (request.ValidExpr_c e _ B _ (hR.ext hx0 hB) (by omega)).mono ?_); rintro r w' ⟨rfl, hx⟩)
    go_ret
    rw [HA.out]
    exact ⟨_, rfl, ⟨rfl, .inl ⟨rfl, rfl⟩⟩, hx0.tr hx⟩
  · have HA := Lib.hid (show CL.atoms e = CL.coll e [] by simp [CL.atoms, hv])
    have h8 := (CL.valid_coll hv).2.1.1
    go_enter Try.func13, Try.ntmps13
    go_wp2_with (first
      | (go_at_call 32; (with_reducible refine (request.ValidExpr_c e _ B _ (hR.ext hx0 hB) (by omega)).mono ?_); rintro r w' ⟨rfl, hx⟩; obtain ⟨e0, e1, e2, e3, e4⟩ := (bE.ext hx).c5; have hz1 := hx.size)
      | (go_at_call 33; (with_reducible refine (formula.collect_0 e _ B _ w.heap.size ((hR.ext hx0 hB).ext hx (by omega)) hB (by omega) h8).mono ?_); rintro r w' ⟨v, rfl, hown', hb'⟩))
    go_ret
    rw [HA.out]
    exact ⟨_, rfl, hown', (hx0.tr hx).trans hb'⟩
end Go.Proofs.Ytmboojbhnmdnkaa
