/-  -/
import Derived.Test.YtmolffigeobnnaaZ1
import Derived.Test.YtmolffigeobnnaaZ2
/- append onto a row of the call's own, with where the new slice lies: in the old row, or in new memory; what such calls leave alone. -/
namespace Go.Proofs.Ytmolffigeobnnaa
open Go.RowKit
section
variable {P : Program} (w : World)
theorem run_append_row (ty : TypeId) (t : TypeId) (base : Nat) (e : TypeId) (size bytes : Nat) (z : Value) (ht : P.underlying t = some (.slice e)) (hinfo : (P.info? e).map (fun i => (i.zero, i.size, i.bytes)) = some (some z, size, bytes))
    (hzs : z.cells.size = size) (hsz : 0 < size)
    (v : Value) (n : Nat) (xs : List Value) (hown : w.ownsRow base e size v n xs)
    (A : Option Addr) (m c : Nat) (news : List Value) (hl : news.length = m * size) (hr : Sits w A news) (h1 : ∀ u ∈ news, u.oneCell' = true)
    (h63 : n + m ≤ maxLen) (hbytes : (n + m) * bytes ≤ 140737488355328) (hbase : base ≤ w.heap.size) :
    ∃ v' w', (Builtin.append_ #[t, t] ty #[v, .slice A m c]).run P w = .ok v' w' ∧ w'.ownsRow base e size v' (n + m) (xs ++ news) ∧ Below base w w' ∧ w.grownBy w' v.ownBlock ∧ (v'.ownBlock = v.ownBlock ∨ v'.ownBlock = some w.heap.size) := by
  obtain ⟨i, hi, hz, hsize, hby⟩ := info_parts hinfo
  have hgr : ∀ {w' : World}, w.grownBy w' v.ownBlock → Below base w w' := fun {_} hg =>
    (Below.refl base w).grown hg hbase (fun k hk => (hown.lt k hk).1)
  have hnews : ∀ ad, A = some ad → ∀ j u, news[j]? = some u → w.cell? (ad.add j) = some u := by
    intro ad e j u hu
    obtain ⟨b, off, e', hc⟩ := hr (fun e => by subst e; simp at hu)
    rw [e] at e'
    injection e' with e'
    subst e'
    rw [Addr.add_lit]; exact hc j u hu
  rcases A with _ | ad
  · have hn : news = [] := by
      by_cases hn : news = []
      · exact hn
      · obtain ⟨_, _, e, _⟩ := hr hn
        cases e
    subst hn
    have hm : m = 0 := by
      rcases Nat.eq_zero_or_pos m with h0 | h0
      · exact h0
      · have := Nat.mul_pos h0 hsz; simp at hl; omega
    subst hm
    refine ⟨v, w, ?_, by simpa using hown, Below.refl _ _, World.grownBy.refl _ _, .inl rfl⟩
    rcases hown.2 with ⟨rfl, rfl⟩ | ⟨g, cap, cur, rfl, _, _, hnc, _⟩
    · simp [Builtin.append_, run_underlying ht, sizeOf, typeInfo, hi, Builtin.lenOf, Builtin.firstCells]
    · simp [Builtin.append_, run_underlying ht, sizeOf, typeInfo, hi, Builtin.lenOf, Builtin.firstCells, hnc, storeCells]
  · obtain ⟨v', w', hrun, h2, h3, _, h5⟩ := run_append_own_at (P := P) w base t ty e i z size bytes ht hi hz hsize hby hzs hsz v n xs hown ad m c news hl
      (hnews ad rfl) h1 h63 hbytes hbase
    exact ⟨v', w', hrun, h2, hgr h3, h3, h5⟩
theorem wp_append_row {o : Oper} {a : Act} {K : Act → World → Prop} {Q : Exit → Act → World → Prop} (s x : Operand) (t : TypeId) 
    (ho : o.op = .call { callee := .builtin .append, args := #[s, x], argTypes := #[t, t] }) (base : Nat) (e : TypeId) (size bytes : Nat) (z : Value) (ht : P.underlying t = some (.slice e)) (hinfo : (P.info? e).map (fun i => (i.zero, i.size, i.bytes)) = some (some z, size, bytes))
    (hzs : z.cells.size = size) (hsz : 0 < size)
    (v : Value) (n : Nat) (xs : List Value) (hs : a.eval s = v) (hown : w.ownsRow base e size v n xs)
    (A : Option Addr) (m c : Nat) (news : List Value) (hx : a.eval x = .slice A m c) (hl : news.length = m * size) (hr : Sits w A news) (h1 : ∀ u ∈ news, u.oneCell' = true)
    (h63 : n + m ≤ maxLen) (hbytes : (n + m) * bytes ≤ 140737488355328) (hbase : base ≤ w.heap.size)
    (h : ∀ v' w', w'.ownsRow base e size v' (n + m) (xs ++ news) → Below base w w' → w.grownBy w' v.ownBlock → (v'.ownBlock = v.ownBlock ∨ v'.ownBlock = some w.heap.size) → K (a.put o.dst v') w') : o.wp P a w K Q := by
  obtain ⟨v', w', hrun, h2, h3, h4, h5⟩ := run_append_row (P := P) w o.type t base e size bytes z ht hinfo hzs hsz v n xs hown A m c news hl hr h1 h63 hbytes hbase
  unfold Oper.wp execOp
  simp only [ho, resolve, invoke, builtin, Sem.run_bind, Sem.run_pure, Result.andThen_ok, List.map_toArray, List.map_cons, List.map_nil, hs, hx, hrun]
  exact h v' w' h2 h3 h4 h5
theorem wpList_append_row {ops : Array Oper} {rest : List Oper} {o : Oper} {a : Act} {Q : Exit → Act → World → Prop} (hgd : o.guard = none) (s x : Operand) (t : TypeId) 
    (ho : o.op = .call { callee := .builtin .append, args := #[s, x], argTypes := #[t, t] }) (base : Nat) (e : TypeId) (size bytes : Nat) (z : Value) (ht : P.underlying t = some (.slice e)) (hinfo : (P.info? e).map (fun i => (i.zero, i.size, i.bytes)) = some (some z, size, bytes))
    (hzs : z.cells.size = size) (hsz : 0 < size)
    (v : Value) (n : Nat) (xs : List Value) (hs : a.eval s = v) (hown : w.ownsRow base e size v n xs)
    (A : Option Addr) (m c : Nat) (news : List Value) (hx : a.eval x = .slice A m c) (hl : news.length = m * size) (hr : Sits w A news) (h1 : ∀ u ∈ news, u.oneCell' = true)
    (h63 : n + m ≤ maxLen) (hbytes : (n + m) * bytes ≤ 140737488355328) (hbase : base ≤ w.heap.size)
    (h : ∀ v' w', w'.ownsRow base e size v' (n + m) (xs ++ news) → Below base w w' → w.grownBy w' v.ownBlock → (v'.ownBlock = v.ownBlock ∨ v'.ownBlock = some w.heap.size) → wpList P ops Q rest (a.put o.dst v') w') : wpList P ops Q (o :: rest) a w :=
  wpList_plain hgd fun _ hK => wp_append_row w s x t ho base e size bytes z ht hinfo hzs hsz v n xs hs hown A m c news hx hl hr h1 h63 hbytes hbase fun v' w' h2 h3 h4 h5 => hK _ _ (h v' w' h2 h3 h4 h5)
theorem step_append_row {ops : Array Oper} {o : Oper} {a : Act} {K : Act → World → Prop} {Q : Exit → Act → World → Prop} {E : Prop} (hgd : o.guard = none) (s x : Operand) (t : TypeId) 
    (ho : o.op = .call { callee := .builtin .append, args := #[s, x], argTypes := #[t, t] }) (base : Nat) (e : TypeId) (size bytes : Nat) (z : Value) (ht : P.underlying t = some (.slice e)) (hinfo : (P.info? e).map (fun i => (i.zero, i.size, i.bytes)) = some (some z, size, bytes))
    (hzs : z.cells.size = size) (hsz : 0 < size)
    (v : Value) (n : Nat) (xs : List Value) (hs : a.eval s = v) (hown : w.ownsRow base e size v n xs)
    (A : Option Addr) (m c : Nat) (news : List Value) (hx : a.eval x = .slice A m c) (hl : news.length = m * size) (hr : Sits w A news) (h1 : ∀ u ∈ news, u.oneCell' = true)
    (h63 : n + m ≤ maxLen) (hbytes : (n + m) * bytes ≤ 140737488355328) (hbase : base ≤ w.heap.size)
    (h : ∀ v' w', w'.ownsRow base e size v' (n + m) (xs ++ news) → Below base w w' → w.grownBy w' v.ownBlock → (v'.ownBlock = v.ownBlock ∨ v'.ownBlock = some w.heap.size) → K (a.put o.dst v') w') :
    if Region.wanted o (yielded ops a.tmps) = true then Oper.wp P o a w K Q else E := by
  have hw : Region.wanted o (yielded ops a.tmps) = true := by simp [Region.wanted, hgd]
  rw [if_pos hw]
  exact wp_append_row w s x t ho base e size bytes z ht hinfo hzs hsz v n xs hs hown A m c news hx hl hr h1 h63 hbytes hbase h
end
/-- only the row that v stands in has changed, and what is new -/
theorem grown_tr {a b c : World} {r r2 : Option Nat} (h : a.grownBy b r) (k : b.grownBy c r2) (hr : r2 = r ∨ ∃ g, r2 = some g ∧ a.heap.size ≤ g) : a.grownBy c r :=
  ⟨k.os.trans h.os, k.tape.trans h.tape, k.output.trans h.output, Nat.le_trans h.size k.size, fun i hi hn => by
    refine (k.block i (Nat.lt_of_lt_of_le hi h.size) ?_).trans (h.block i hi hn)
    rcases hr with rfl | ⟨g, rfl, hg⟩
    · exact hn
    · intro e; injection e; omega⟩
theorem grown_ext {a b : World} {r : Option Nat} (h : Ext a b) : a.grownBy b r := ⟨h.os, h.tape, h.output, h.size, fun i hi _ => h.block i hi⟩
theorem grown_below {a b : World} {r : Option Nat} {B : Nat} (h : a.grownBy b r) (hB : B ≤ a.heap.size) (hr : ∀ g, r = some g → B ≤ g) : Below B a b :=
  ⟨h.os, h.tape, h.output, h.size, fun i hi => h.block i (by omega) (fun e => by have := hr i e.symm; omega)⟩
/-- where a value's row lies: as before, or in memory that a did not have -/
def RowIn (a : World) (r : Option Nat) (v : Value) : Prop := v.ownBlock = r ∨ ∃ g, v.ownBlock = some g ∧ a.heap.size ≤ g
theorem RowIn.tr {a b : World} {r : Option Nat} {v v' : Value} (h : RowIn a r v) (hs : a.heap.size ≤ b.heap.size) (k : RowIn b v.ownBlock v') : RowIn a r v' := by
  rcases k with e | ⟨g, e, hg⟩
  · unfold RowIn; rw [e]; exact h
  · exact .inr ⟨g, e, by omega⟩
end Go.Proofs.Ytmolffigeobnnaa
/- The walks that list the atoms of a valid expression. -/
namespace Go.Proofs.Ytmolffigeobnnaa
open Go.RowKit
set_option maxRecDepth 100000
set_option linter.unusedVariables false
def ixo (l : List CL.At) (a : CL.At) : Option Nat := l.findIdx? (fun b => decide (b = a))
def ixi (l : List CL.At) (a : CL.At) : Int := match ixo l a with | none => -1 | some i => (i : Int)
theorem ixo_hit {l : List CL.At} {a : CL.At} {j : Nat} (h : a ∉ l.take j) (hj : j < l.length) (e : a = l[j]) : ixo l a = some j := by
  unfold ixo
  rw [List.findIdx?_eq_some_iff_getElem]
  refine ⟨hj, by simp [e], fun i hi => ?_⟩
  simp only [decide_eq_true_eq]
  intro he
  refine h ?_
  rw [List.mem_take_iff_getElem]
  exact ⟨i, by omega, he⟩
theorem ixo_none {l : List CL.At} {a : CL.At} (h : a ∉ l) : ixo l a = none := by
  unfold ixo
  rw [List.findIdx?_eq_none_iff]
  intro x hx
  simp only [decide_eq_false_iff_not]
  intro e; subst e; exact h hx
theorem ixi_hit {l : List CL.At} {a : CL.At} {j : Nat} (h : a ∉ l.take j) (hj : j < l.length) (e : a = l[j]) : ixi l a = j := by unfold ixi; rw [ixo_hit h hj e]
theorem ixi_none {l : List CL.At} {a : CL.At} {j : Nat} (h : a ∉ l.take j) (hj : l.length ≤ j) : ixi l a = -1 := by
  rw [List.take_of_length_le hj] at h
  unfold ixi; rw [ixo_none h]
theorem out_step {l : List CL.At} {a : CL.At} {j : Nat} (h : a ∉ l.take j) (hj : j < l.length) (e : ¬ a = l[j]) : a ∉ l.take (j + 1) := by
  rw [List.take_succ_eq_append_getElem hj]
  simp only [List.mem_append, List.mem_singleton, not_or]
  exact ⟨h, e⟩
theorem ixi_mem (l : List CL.At) (a : CL.At) : decide (0 ≤ ixi l a) = decide (a ∈ l) := by
  by_cases h : a ∈ l
  · obtain ⟨i, hi, e⟩ : ∃ i, ixo l a = some i ∧ True := by
      cases hh : ixo l a with
      | none =>
        unfold ixo at hh
        rw [List.findIdx?_eq_none_iff] at hh
        simpa using hh a h
      | some i => exact ⟨i, rfl, trivial⟩
    simp [ixi, hi, h]
  · simp [ixi, ixo_none h, h]
theorem ixi_lt (l : List CL.At) (a : CL.At) : ixi l a < l.length := by
  unfold ixi
  split
  · omega
  · rename_i i h
    unfold ixo at h
    rw [List.findIdx?_eq_some_iff_getElem] at h
    obtain ⟨h, _⟩ := h; omega
set_option maxHeartbeats 800000 in
theorem atIndex_c (l : List CL.At) (a : CL.At) (A : Option Addr) (c : Nat) (w : World) (hl : l.length ≤ maxLen) (hr : Sits w A (ats l)) :
    Calls Try.prog 55 #[.slice A l.length c, .agg #[.string ⟨a.n.toArray⟩, .int .i64 a.a.m, .int .i64 a.a.u]] w fun r w' => r = .returned (.int .i64 (ixi l a)) ∧ Ext w w' := by
  unfold maxLen at hl
  obtain ⟨nm, m, u⟩ := a
  have hg := at_guard
  have HN : Hid ((⟨nm, ⟨m, u⟩⟩ : CL.At) ∉ l.take 0) := Lib.hid (by simp)
  obtain ⟨bE, hx0⟩ := box1 w #[.string ⟨nm.toArray⟩, .int .i64 m, .int .i64 u] 25
  go_enter Try.func55, Try.ntmps55
  go_wp2
  generalize (w.alloc (.cells #[.string ⟨nm.toArray⟩, .int .i64 m, .int .i64 u] 25)) = w1 at *
  go_loopw [8] (fun i wr => ∃ j : Nat, j ≤ l.length ∧ i = .int .i64 j ∧ Ext w1 wr ∧ Hid ((⟨nm, ⟨m, u⟩⟩ : CL.At) ∉ l.take j)) (fun i _ => l.length - (intOf i).toNat)
  case atStart => exact ⟨0, by omega, rfl, Ext.rfl', HN⟩
  case round =>
    obtain ⟨j, hj, rfl, hx, HJ⟩ := hrel
    have hx2 := hx0.tr hx
    by_cases hlt : j < l.length
    · obtain ⟨b, o, rfl, c0, c1, c2⟩ := (hr.ext hx2).atoms hlt
      have H1 := Lib.hid (ixi_hit HJ.out hlt)
      have H3 := Lib.hid (out_step HJ.out hlt)
      have bEr := bE.ext hx
      have q0 := ExtOf.cell (bEr.cell 0)
      have q1 := ExtOf.cell (bEr.cell 1)
      have q2 := ExtOf.cell (bEr.cell 2)
      generalize l[j] = x at *
      obtain ⟨xn, xm, xu⟩ := x
      simp only at c0 c1 c2
      have q3 := ExtOf.cell c0
      have q4 := ExtOf.cell c1
      have q5 := ExtOf.cell c2
      have hq := at_eql nm xn m u xm xu
      by_cases heq : (⟨nm, ⟨m, u⟩⟩ : CL.At) = ⟨xn, ⟨xm, xu⟩⟩
      · have H4 := Lib.hid (H1.out heq)
        rw [decide_eq_true heq] at hq
        clear heq c0 c1 c2
        go_wp2_with fail
        refine wp_region_ext_lit (by kernel_rfl) (by kernel_rfl) ?_
        repeat (go_big_quiet_step (fail))
        refine wpQuiet_nil ?_
        intro wq hw'
        obtain ⟨⟨wq', hxq⟩, hw''⟩ := hw'
        subst hw''
        go_wp2
        go_ret
        exact ⟨ret_int H4.out.symm, hx2.tr hxq⟩
      · have H4 := Lib.hid (H3.out heq)
        rw [decide_eq_false heq] at hq
        clear heq c0 c1 c2
        go_wp2_with fail
        refine wp_region_ext_lit (by kernel_rfl) (by kernel_rfl) ?_
        repeat (go_big_quiet_step (fail))
        refine wpQuiet_nil ?_
        intro wq hw'
        obtain ⟨⟨wq', hxq⟩, hw''⟩ := hw'
        subst hw''
        go_wp2
        exact ⟨⟨j + 1, by omega, by go_num, hx.tr hxq, H4⟩, by simp [intOf]; omega⟩
    · have H4 := Lib.hid (ixi_none HJ.out (by omega))
      go_wp2
      go_ret
      exact ⟨ret_int H4.out.symm, hx2⟩
theorem atContains_c (l : List CL.At) (a : CL.At) (A : Option Addr) (c : Nat) (w : World) (hl : l.length ≤ maxLen) (hr : Sits w A (ats l)) :
    Calls Try.prog 87 #[.slice A l.length c, .agg #[.string ⟨a.n.toArray⟩, .int .i64 a.a.m, .int .i64 a.a.u]] w fun r w' => r = .returned (.bool (decide (a ∈ l))) ∧ Ext w w' := by
  have HM := Lib.hid (ixi_mem l a)
  have hx0 := Ext.new w (.cells #[.string ⟨a.n.toArray⟩, .int .i64 a.a.m, .int .i64 a.a.u] 25)
  go_enter Try.func87, Try.ntmps87
  go_wp2_with (go_at_call 55; (with_reducible refine (atIndex_c l a _ _ _ hl (hr.ext hx0)).mono ?_); rintro r w' ⟨rfl, hx⟩)
  go_ret
  exact ⟨ret_bool HM.out, hx0.tr hx⟩
/-- the list that a walk gives back, a row of its own -/
def OwnAts (base : Nat) (l : List CL.At) (w : World) (r : Ending) (w' : World) : Prop := ∃ v, r = .returned v ∧ w'.ownsRow base 25 3 v l.length (ats l) ∧ Below base w w'
theorem collL_step {kids : List CL.Ex} {j : Nat} {l : List CL.At} (hj : j < kids.length) : CL.collL (kids.drop j) l = CL.collL (kids.drop (j + 1)) (CL.coll kids[j] l) := by
  rw [List.drop_eq_getElem_cons hj]; simp only [CL.collL]
theorem collL_end {kids : List CL.Ex} {j : Nat} {l : List CL.At} (hj : kids.length ≤ j) : CL.collL (kids.drop j) l = l := by
  rw [List.drop_eq_nil_of_le hj]; simp only [CL.collL]
theorem coll_mono (e : CL.Ex) : ∀ l : List CL.At, l.length ≤ (CL.coll e l).length := by
  induction e using CL.Ex.ind with
  | h k a kids ih =>
    have hL : ∀ (ks : List CL.Ex), (∀ e ∈ ks, ∀ l : List CL.At, l.length ≤ (CL.coll e l).length) → ∀ l : List CL.At, l.length ≤ (CL.collL ks l).length := by
      intro ks
      induction ks with
      | nil => intro _ l; simp [CL.collL]
      | cons e ks ihk =>
        intro hk l
        simp only [CL.collL]
        exact Nat.le_trans (hk e (by simp) l) (ihk (fun x hx => hk x (by simp [hx])) _)
    intro l
    simp only [CL.coll]
    split
    · split <;> simp
    · exact hL kids ih l
theorem collL_mono (ks : List CL.Ex) : ∀ l : List CL.At, l.length ≤ (CL.collL ks l).length := by
  induction ks with
  | nil => intro l; simp [CL.collL]
  | cons e ks ih => intro l; simp only [CL.collL]; exact Nat.le_trans (coll_mono e l) (ih _)
set_option maxHeartbeats 1600000 in
theorem formula.collect_c (e : CL.Ex) : ∀ (w : World) (B : Nat) (cs : List Value) (l : List CL.At) (base : Nat) (A : Option Addr) (c : Nat), Rd w B e cs → B ≤ base → base ≤ w.heap.size → w.ownsRow base 25 3 (.slice A l.length c) l.length (ats l) → (CL.coll e l).length ≤ 8 →
    Calls Try.prog 72 #[.slice A l.length c, .agg cs.toArray] w (OwnAts base (CL.coll e l) w) := by
  induction e using CL.Ex.ind with
  | h k a kids ih =>
    intro w B cs l base A0 c0 hR hBb hbs hown h8
    obtain ⟨A, c, rfl, hnm, hkl, hkc, hK⟩ := hR.inv
    obtain ⟨nm, m, u⟩ := a
    have IH := Lib.hid ih
    clear ih hR
    unfold maxLen at hkl
    have hl8 : l.length ≤ 8 := Nat.le_trans (coll_mono _ _) h8
    obtain ⟨bE, hx0⟩ := box1 w #[.int .i64 k, .string ⟨nm.toArray⟩, .int .i64 m, .int .i64 u, .slice A kids.length c] 28
    have hz0 := hx0.size
    by_cases hkids : kids = []
    · subst hkids
      simp only [List.length_nil] at bE hx0 hz0
      by_cases hm : (⟨nm, ⟨m, u⟩⟩ : CL.At) ∈ l
      · have HP := Lib.hid (show CL.coll (.mk k ⟨nm, ⟨m, u⟩⟩ []) l = l by simp [CL.coll, hm])
        have hd := decide_eq_true hm
        clear hm
        go_enter Try.func72, Try.ntmps72
        go_wp2_with (go_at_call 87; (with_reducible refine (atContains_c l ⟨nm, ⟨m, u⟩⟩ _ _ _ (by unfold maxLen; omega) ((Sits.of_own hown).ext hx0)).mono ?_); rintro r w' ⟨rfl, hx⟩)
        go_ret
        rw [HP.out]
        exact ⟨_, rfl, own_ext hown (hx0.tr hx), (hx0.tr hx).mono hbs⟩
      · have HP := Lib.hid (show CL.coll (.mk k ⟨nm, ⟨m, u⟩⟩ []) l = l ++ [⟨nm, ⟨m, u⟩⟩] by simp [CL.coll, hm])
        have hd := decide_eq_false hm
        clear hm
        go_enter Try.func72, Try.ntmps72
        go_wp2_with (first
          | (go_at_call 87; (with_reducible refine (atContains_c l ⟨nm, ⟨m, u⟩⟩ _ _ _ (by unfold maxLen; omega) ((Sits.of_own hown).ext hx0)).mono ?_); rintro r w' ⟨rfl, hx⟩; obtain ⟨e0, e1, e2, e3, e4⟩ := (bE.ext hx).c5; have hz1 := hx.size)
          | (at_builtin; refine wpList_append_sits _ rfl (.tmp 16) (.tmp 19) _ rfl base 25 3 32 _ Try.underlying44 at_info rfl (by omega) _ _ _ rfl ((own_ext hown (hx0.tr hx)).alloc _) _ _ _ [.string ⟨nm.toArray⟩, .int .i64 m, .int .i64 u] rfl rfl (Sits.new _ _ _) (by simp [Value.oneCell']) (by simp only [maxLen]; omega) (by omega) (by simp; omega) ?_; intro v3 w3 hown3 hb3 hg3))
        go_ret
        rw [HP.out]
        refine ⟨_, rfl, ?_, (((hx0.tr hx).mono hbs).alloc (by omega) _).trans hb3⟩
        rw [ats_snoc, List.length_append]; exact hown3
    · have hkl0 : ((kids.length : Int) == 0) = false := beq_eq_false_iff_ne.2 (fun h => hkids (List.eq_nil_of_length_eq_zero (by omega)))
      have HP := Lib.hid (show CL.coll (.mk k ⟨nm, ⟨m, u⟩⟩ kids) l = CL.collL kids l by simp only [CL.coll]; rw [if_neg hkids])
      have H8 := Lib.hid (show (CL.collL kids l).length ≤ 8 by rw [← HP.out]; exact h8)
      have HOWN := Lib.hid (own_ext hown hx0)
      clear h8 hown
      go_enter Try.func72, Try.ntmps72
      go_wp2
      generalize (w.alloc (.cells #[.int .i64 k, .string ⟨nm.toArray⟩, .int .i64 m, .int .i64 u, .slice A kids.length c] 28)) = w1 at *
      go_loopw [0, 24] (fun v i wr => ∃ (j : Nat) (l' : List CL.At) (A' : Option Addr) (c' : Nat), j ≤ kids.length ∧ i = .int .i64 j ∧ v = .slice A' l'.length c' ∧ Hid (wr.ownsRow base 25 3 (.slice A' l'.length c') l'.length (ats l')) ∧ Below base w wr ∧ Hid (CL.collL kids l = CL.collL (kids.drop j) l')) (fun _ i _ => kids.length - (intOf i).toNat)
      case atStart => exact ⟨0, l, _, _, by omega, rfl, rfl, HOWN, hx0.mono hbs, Lib.hid (by simp)⟩
      case round =>
        obtain ⟨j, l', A', c', hj, rfl, rfl, HO, hbl, HL⟩ := hrel
        have hsz := hbl.size
        by_cases hlt : j < kids.length
        · have hKr := hK.below (hbl.mono hBb)
          obtain ⟨b, o, k1, s1, m1, u1, A1, l1, x1, rfl, hbB, hR, c0, c1, c2, c3, c4⟩ := hKr.get hlt
          have HS := Lib.hid (collL_step (l := l') hlt)
          have h8 : (CL.coll kids[j] l').length ≤ 8 := by
            refine Nat.le_trans (collL_mono (kids.drop (j + 1)) _) ?_
            rw [← HS.out, ← HL.out]; exact H8.out
          have hm := List.getElem_mem hlt
          generalize kids[j] = e at *
          have hbx : b ≠ wr.heap.size := by omega
          have hBw : B ≤ wr.heap.size := by omega
          go_wp2_with (go_at_call 72; (with_reducible refine (IH.out e hm _ B _ l' base A' c' (hR.kept ((Below.refl _ _).alloc hBw _)) hBb (by simp; omega) (HO.out.alloc _) h8).mono ?_); rintro r w' ⟨v, rfl, hown', hb'⟩; obtain ⟨A2, c2, rfl, _, _⟩ := own_form hown')
          exact ⟨⟨j + 1, _, A2, c2, by omega, by go_num, rfl, hown', (hbl.alloc (by omega) _).trans hb', Lib.hid (by rw [HL.out, HS.out])⟩, by simp [intOf]; omega⟩
        · go_wp2
          go_ret
          rw [HP.out, HL.out, collL_end (by omega)]
          exact ⟨_, rfl, HO.out, hbl⟩
theorem formula.collect_0 (e : CL.Ex) (w : World) (B : Nat) (cs : List Value) (base : Nat) (hR : Rd w B e cs) (hB : B ≤ base) (hb : base ≤ w.heap.size) (h8 : (CL.coll e []).length ≤ 8) :
    Calls Try.prog 72 #[.slice none 0 0, .agg cs.toArray] w (OwnAts base (CL.coll e []) w) := formula.collect_c e w B cs [] base none 0 hR hB hb ⟨rfl, .inl ⟨rfl, rfl⟩⟩ h8
theorem formula.Atoms_c (e : CL.Ex) (w : World) (B : Nat) (cs : List Value) (hR : Rd w B e cs) (hB : B ≤ w.heap.size) : Calls Try.prog 46 #[.agg cs.toArray] w (OwnAts w.heap.size (CL.atoms e) w) := by
  obtain ⟨k, s, m, u, A, l, c, rfl⟩ := hR.shape
  obtain ⟨bE, hx0⟩ := box1 w #[.int .i64 k, .string s, .int .i64 m, .int .i64 u, .slice A l c] 28
  have hz0 := hx0.size
  cases hv : CL.valid e
  · have HA := Lib.hid (show CL.atoms e = [] by simp [CL.atoms, hv])
    go_enter Try.func46, Try.ntmps46
    go_wp2_with (go_at_call 44; (with_reducible refine (request.ValidExpr_c e _ B _ (hR.ext hx0 hB) (by omega)).mono ?_); rintro r w' ⟨rfl, hx⟩)
    go_ret
    rw [HA.out]
    exact ⟨_, rfl, ⟨rfl, .inl ⟨rfl, rfl⟩⟩, hx0.tr hx⟩
  · have HA := Lib.hid (show CL.atoms e = CL.coll e [] by simp [CL.atoms, hv])
    have h8 := (CL.valid_coll hv).2.1.1
    go_enter Try.func46, Try.ntmps46
    go_wp2_with (first
      | (go_at_call 44; (with_reducible refine (request.ValidExpr_c e _ B _ (hR.ext hx0 hB) (by omega)).mono ?_); rintro r w' ⟨rfl, hx⟩; obtain ⟨e0, e1, e2, e3, e4⟩ := (bE.ext hx).c5; have hz1 := hx.size)
      | (go_at_call 72; (with_reducible refine (formula.collect_0 e _ B _ w.heap.size ((hR.ext hx0 hB).ext hx (by omega)) hB (by omega) h8).mono ?_); rintro r w' ⟨v, rfl, hown', hb'⟩))
    go_ret
    rw [HA.out]
    exact ⟨_, rfl, hown', (hx0.tr hx).trans hb'⟩
end Go.Proofs.Ytmolffigeobnnaa
/- The walks of the reference that lists the atoms of a valid expression: clusterlocksref07.Add, Atoms, ValidExpr. -/
namespace Go.Proofs.Ytmolffigeobnnaa
open Go.RowKit
set_option maxRecDepth 100000
set_option linter.unusedVariables false
theorem raddL_none {kids : List CL.Ex} {j : Nat} {l : List CL.At} (hj : j < kids.length) (h : CL.radd kids[j] l = none) : CL.raddL (kids.drop j) l = none := by
  rw [List.drop_eq_getElem_cons hj]; simp only [CL.raddL, h]
theorem raddL_some {kids : List CL.Ex} {j : Nat} {l x : List CL.At} (hj : j < kids.length) (h : CL.radd kids[j] l = some x) : CL.raddL (kids.drop j) l = CL.raddL (kids.drop (j + 1)) x := by
  rw [List.drop_eq_getElem_cons hj]; simp only [CL.raddL, h]
theorem raddL_end {kids : List CL.Ex} {j : Nat} {l : List CL.At} (hj : kids.length ≤ j) : CL.raddL (kids.drop j) l = some l := by
  rw [List.drop_eq_nil_of_le hj]; simp only [CL.raddL]
theorem sizeL_step {kids : List CL.Ex} {j : Nat} (hj : j < kids.length) : CL.sizeL (kids.drop j) = CL.size kids[j] + CL.sizeL (kids.drop (j + 1)) := by
  rw [List.drop_eq_getElem_cons hj]; simp only [CL.sizeL]
theorem radd_len (e : CL.Ex) : ∀ l x : List CL.At, CL.radd e l = some x → x.length ≤ l.length + CL.size e := by
  induction e using CL.Ex.ind with
  | h k a kids ih =>
    have hL : ∀ (ks : List CL.Ex), (∀ e ∈ ks, ∀ l x : List CL.At, CL.radd e l = some x → x.length ≤ l.length + CL.size e) → ∀ l x : List CL.At, CL.raddL ks l = some x → x.length ≤ l.length + CL.sizeL ks := by
      intro ks
      induction ks with
      | nil => intro _ l x h; simp [CL.raddL] at h; simp [h]
      | cons e ks ihk =>
        intro hk l x h
        simp only [CL.raddL] at h
        split at h
        · cases h
        · rename_i y hy
          have h1 := hk e (by simp) l y hy
          have h2 := ihk (fun x hx => hk x (by simp [hx])) _ _ h
          simp only [CL.sizeL]; omega
    intro l x h
    simp only [CL.radd] at h
    split at h
    · split at h
      · injection h with h
        subst h
        simp only [CL.size]
        split
        · omega
        · simp
      · cases h
    · split at h
      · cases h
      · have := hL kids ih l x h
        simp only [CL.size]; omega
def AddPost (base : Nat) (e : CL.Ex) (l : List CL.At) (r0 : Option Nat) (w : World) (r : Ending) (w' : World) : Prop :=
  (match CL.radd e l with
    | none => ∃ v, r = .returned (.tuple #[v, .bool false])
    | some x => ∃ v, r = .returned (.tuple #[v, .bool true]) ∧ w'.ownsRow base 25 3 v x.length (ats x) ∧ RowIn w r0 v) ∧ w.grownBy w' r0
theorem AddPost.mk_n {base : Nat} {e : CL.Ex} {l : List CL.At} {r0 : Option Nat} {w w' : World} {v : Value} (h : CL.radd e l = none) (hg : w.grownBy w' r0) : AddPost base e l r0 w (.returned (.tuple #[v, .bool false])) w' := by
  unfold AddPost; rw [h]; exact ⟨⟨v, rfl⟩, hg⟩
theorem AddPost.mk_s {base : Nat} {e : CL.Ex} {l x : List CL.At} {r0 : Option Nat} {w w' : World} {v : Value} (h : CL.radd e l = some x) (ho : w'.ownsRow base 25 3 v x.length (ats x)) (hr : RowIn w r0 v) (hg : w.grownBy w' r0) : AddPost base e l r0 w (.returned (.tuple #[v, .bool true])) w' := by
  unfold AddPost; rw [h]; exact ⟨⟨v, rfl, ho, hr⟩, hg⟩
theorem AddPost.un_n {base : Nat} {e : CL.Ex} {l : List CL.At} {r0 : Option Nat} {w w' : World} {r : Ending} (h : CL.radd e l = none) (hp : AddPost base e l r0 w r w') : ∃ v, r = .returned (.tuple #[v, .bool false]) ∧ w.grownBy w' r0 := by
  unfold AddPost at hp; rw [h] at hp; obtain ⟨⟨v, hv⟩, hg⟩ := hp; exact ⟨v, hv, hg⟩
theorem AddPost.un_s {base : Nat} {e : CL.Ex} {l x : List CL.At} {r0 : Option Nat} {w w' : World} {r : Ending} (h : CL.radd e l = some x) (hp : AddPost base e l r0 w r w') : ∃ v, r = .returned (.tuple #[v, .bool true]) ∧ w'.ownsRow base 25 3 v x.length (ats x) ∧ RowIn w r0 v ∧ w.grownBy w' r0 := by
  unfold AddPost at hp; rw [h] at hp; obtain ⟨⟨v, hv, h1, h2⟩, hg⟩ := hp; exact ⟨v, hv, h1, h2, hg⟩
theorem leaf_n {k : Int} {a : CL.At} {l : List CL.At} (h : ¬ (k = 0 ∧ CL.vatom a = true)) : CL.radd (.mk k a []) l = none := by simp only [CL.radd]; rw [if_pos trivial, if_neg h]
theorem leaf_s {a : CL.At} {l : List CL.At} (h : CL.vatom a = true) : CL.radd (.mk 0 a []) l = some (if a ∈ l then l else l ++ [a]) := by simp [CL.radd, h]
set_option maxHeartbeats 3200000 in
theorem clusterlocksref07.Add_c (e : CL.Ex) : ∀ (w : World) (B : Nat) (cs : List Value) (l : List CL.At) (base : Nat) (A : Option Addr) (c : Nat), Rd w B e cs → B ≤ base → base ≤ w.heap.size → w.ownsRow base 25 3 (.slice A l.length c) l.length (ats l) → l.length + CL.size e ≤ 1000 →
    Calls Try.prog 74 #[.slice A l.length c, .agg cs.toArray] w (AddPost base e l (Value.slice A l.length c).ownBlock w) := by
  induction e using CL.Ex.ind with
  | h k a kids ih =>
    intro w B cs l base A0 c0 hR hBb hbs hown h8
    obtain ⟨A, c, rfl, hnm, hkl, hkc, hK⟩ := hR.inv
    obtain ⟨nm, m, u⟩ := a
    have IH := Lib.hid ih
    clear ih hR
    unfold maxLen at hkl
    have hsz : CL.size (.mk k ⟨nm, ⟨m, u⟩⟩ kids) = 1 + CL.sizeL kids := by simp [CL.size]
    obtain ⟨bE, hx0⟩ := box1 w #[.int .i64 k, .string ⟨nm.toArray⟩, .int .i64 m, .int .i64 u, .slice A kids.length c] 28
    have hz0 := hx0.size
    have hbl := bE.lt
    have hg := at_guard
    by_cases hkids : kids = []
    · subst hkids
      simp only [List.length_nil] at bE hx0 hz0 hbl
      by_cases hva : k = 0 ∧ CL.vatom ⟨nm, ⟨m, u⟩⟩ = true
      · obtain ⟨rfl, hva⟩ := hva
        have HP := Lib.hid (leaf_s (l := l) hva)
        have hv1 : CL.vname nm = true := by simp [CL.vatom] at hva; exact hva.1
        have hv2 : CL.usable ⟨m, u⟩ = true := by simp [CL.vatom] at hva; exact hva.2
        clear hva
        have HN : Hid ((⟨nm, ⟨m, u⟩⟩ : CL.At) ∉ l.take 0) := Lib.hid (by simp)
        go_enter Try.func74, Try.ntmps74
        go_wp2_with (first
          | (go_at_call 90; (with_reducible refine (clusterlocksref05.ValidName_c nm _ hnm).mono ?_); rintro r w' ⟨rfl, rfl⟩)
          | (go_at_call 91; (with_reducible refine (clusterlocksref07.Usable_c m u _).mono ?_); rintro r w' ⟨rfl, hx⟩))
        have hx2 := hx0.tr hx
        have HO := Lib.hid (own_ext hown hx2)
        replace bE := bE.ext hx
        go_loopw [6] (fun i wr => ∃ j : Nat, j ≤ l.length ∧ i = .int .i64 j ∧ Ext w' wr ∧ Hid ((⟨nm, ⟨m, u⟩⟩ : CL.At) ∉ l.take j)) (fun i _ => l.length - (intOf i).toNat)
        case atStart => exact ⟨0, by omega, rfl, Ext.rfl', HN⟩
        case round =>
          obtain ⟨j, hj, rfl, hy, HJ⟩ := hrel
          obtain ⟨wo, rfl⟩ : ∃ wo : World, wo = wr := ⟨_, rfl⟩
          by_cases hlt : j < l.length
          · obtain ⟨b, o, rfl, c0, c1, c2⟩ := ((Sits.of_own hown).ext (hx2.tr hy)).atoms hlt
            have H1 := Lib.hid (List.getElem_mem hlt)
            have H3 := Lib.hid (out_step HJ.out hlt)
            have bEr := bE.ext hy
            have q0 := ExtOf.cell (bEr.cell 1)
            have q1 := ExtOf.cell (bEr.cell 2)
            have q2 := ExtOf.cell (bEr.cell 3)
            generalize l[j] = x at *
            obtain ⟨xn, xm, xu⟩ := x
            simp only at c0 c1 c2
            have q3 := ExtOf.cell c0
            have q4 := ExtOf.cell c1
            have q5 := ExtOf.cell c2
            have hq := at_eql xn nm xm xu m u
            by_cases heq : (⟨xn, ⟨xm, xu⟩⟩ : CL.At) = ⟨nm, ⟨m, u⟩⟩
            · have hmem := H1.out
              rw [heq] at hmem
              rw [decide_eq_true heq] at hq
              have HP2 := Lib.hid (HP.out.trans (by rw [if_pos hmem]))
              clear heq hmem c0 c1 c2
              go_wp2_with fail
              refine wp_region_ext_lit (by kernel_rfl) (by kernel_rfl) ?_
              repeat (go_big_quiet_step (fail))
              refine wpQuiet_nil ?_
              intro wq hw'
              obtain ⟨⟨wq', hxq⟩, hw''⟩ := hw'
              subst hw''
              go_wp2
              go_ret2
              exact AddPost.mk_s HP2.out (own_ext HO.out (hy.tr hxq)) (.inl rfl) (grown_ext (hx2.tr (hy.tr hxq)))
            · have H4 := Lib.hid (H3.out (Ne.symm heq))
              rw [decide_eq_false heq] at hq
              clear heq c0 c1 c2
              go_wp2_with fail
              refine wp_region_ext_lit (by kernel_rfl) (by kernel_rfl) ?_
              repeat (go_big_quiet_step (fail))
              refine wpQuiet_nil ?_
              intro wq hw'
              obtain ⟨⟨wq', hxq⟩, hw''⟩ := hw'
              subst hw''
              go_wp2
              exact ⟨⟨j + 1, by omega, by go_num, hy.tr hxq, H4⟩, by simp [intOf]; omega⟩
          · have hout := HJ.out
            rw [List.take_of_length_le (by omega)] at hout
            have HP2 := Lib.hid (HP.out.trans (by rw [if_neg hout]))
            clear hout
            have hxo := hx2.tr hy
            have hzo := hxo.size
            obtain ⟨e0, e1, e2, e3, e4⟩ := (bE.ext hy).c5
            go_wp2_with (at_builtin; refine wpList_append_row _ rfl (.tmp 46) (.tmp 49) _ rfl base 25 3 32 _ Try.underlying44 at_info rfl (by omega) _ _ _ rfl ((own_ext HO.out hy).alloc _) _ _ _ [.string ⟨nm.toArray⟩, .int .i64 m, .int .i64 u] rfl rfl (Sits.new _ _ _) (by simp [Value.oneCell']) (by simp only [maxLen]; omega) (by omega) (by simp; omega) ?_; intro v3 w3 hown3 hb3 hg3 hrow3)
            go_ret2
            refine AddPost.mk_s HP2.out ?_ ?_ ?_
            · rw [ats_snoc, List.length_append]; exact hown3
            · rcases hrow3 with e | e
              · exact .inl e
              · exact .inr ⟨_, e, by simp; omega⟩
            · exact grown_tr (grown_ext (hxo.tr (Ext.new _ _))) hg3 (.inl rfl)
      · have HP := Lib.hid (leaf_n (l := l) hva)
        have hb2 : k ≠ 0 ∨ (k = 0 ∧ CL.vname nm = false) ∨ (k = 0 ∧ CL.vname nm = true ∧ CL.usable ⟨m, u⟩ = false) := by
          by_cases h1 : k = 0
          · by_cases h2 : CL.vname nm = true
            · exact .inr (.inr ⟨h1, h2, by simpa [CL.vatom, h1, h2] using hva⟩)
            · exact .inr (.inl ⟨h1, by simpa using h2⟩)
          · exact .inl h1
        clear hva
        rcases hb2 with h1 | ⟨rfl, h2⟩ | ⟨rfl, h2, h3⟩
        all_goals
          try (have h1' : (k == 0) = false := by simpa using h1)
          go_enter Try.func74, Try.ntmps74
          go_wp2_with (first
            | (go_at_call 90; (with_reducible refine (clusterlocksref05.ValidName_c nm _ hnm).mono ?_); rintro r w' ⟨rfl, rfl⟩)
            | (go_at_call 91; (with_reducible refine (clusterlocksref07.Usable_c m u _).mono ?_); rintro r w' ⟨rfl, hx⟩))
          go_ret2
          first
            | exact AddPost.mk_n HP.out (grown_ext hx0)
            | exact AddPost.mk_n HP.out (grown_ext (hx0.tr hx))
    · have hkl0 : ((kids.length : Int) == 0) = false := beq_eq_false_iff_ne.2 (fun h => hkids (List.eq_nil_of_length_eq_zero (by omega)))
      by_cases hbad : k < 1 ∨ (kids.length : Int) < k ∨ (⟨nm, ⟨m, u⟩⟩ : CL.At) ≠ CL.noAt
      · have HP := Lib.hid (show CL.radd (.mk k ⟨nm, ⟨m, u⟩⟩ kids) l = none by simp only [CL.radd]; rw [if_neg hkids, if_pos hbad])
        have hb2 : k < 1 ∨ (1 ≤ k ∧ (kids.length : Int) < k) ∨ (1 ≤ k ∧ k ≤ (kids.length : Int) ∧ decide ((⟨nm, ⟨m, u⟩⟩ : CL.At) = CL.noAt) = false) := by
          by_cases h1 : k < 1
          · exact .inl h1
          · by_cases h2 : (kids.length : Int) < k
            · exact .inr (.inl ⟨by omega, h2⟩)
            · exact .inr (.inr ⟨by omega, by omega, by simpa [h1, h2] using hbad⟩)
        clear hbad
        have hq := at_neq0 nm m u
        rcases hb2 with h1 | ⟨h1, h2⟩ | ⟨h1, h2, h3⟩
        all_goals
          try simp only [h3] at hq
          go_enter Try.func74, Try.ntmps74
          go_wp2
          go_ret2
          exact AddPost.mk_n HP.out (grown_ext hx0)
      · have HP := Lib.hid (show CL.radd (.mk k ⟨nm, ⟨m, u⟩⟩ kids) l = CL.raddL kids l by simp only [CL.radd]; rw [if_neg hkids, if_neg hbad])
        have h1 : 1 ≤ k := by omega
        have h2 : k ≤ (kids.length : Int) := by omega
        have h3 : decide ((⟨nm, ⟨m, u⟩⟩ : CL.At) = CL.noAt) = true := by
          simp only [not_or, ne_eq, Classical.not_not] at hbad
          simpa using hbad.2.2
        clear hbad
        have hq := at_neq0 nm m u
        simp only [h3] at hq
        clear h3
        have HOWN := Lib.hid (own_ext hown hx0)
        have hro : ∀ g, (Value.slice A0 l.length c0).ownBlock = some g → base ≤ g ∧ g < w.heap.size := fun g hg => hown.lt g hg
        have HRO := Lib.hid hro
        have HNE := Lib.hid (show some w.heap.size ≠ (Value.slice A0 l.length c0).ownBlock from fun e => by have := hro _ e.symm; omega)
        clear hro hown
        go_enter Try.func74, Try.ntmps74
        go_wp2
        generalize hr0 : (Value.slice A0 l.length c0).ownBlock = r0 at *
        generalize (w.alloc (.cells #[.int .i64 k, .string ⟨nm.toArray⟩, .int .i64 m, .int .i64 u, .slice A kids.length c] 28)) = w1 at *
        go_loopw [0, 7] (fun v i wr => ∃ (j : Nat) (l' : List CL.At) (A' : Option Addr) (c' : Nat), j ≤ kids.length ∧ i = .int .i64 j ∧ v = .slice A' l'.length c' ∧ Hid (wr.ownsRow base 25 3 (.slice A' l'.length c') l'.length (ats l')) ∧ Hid (RowIn w1 r0 (.slice A' l'.length c')) ∧ w1.grownBy wr r0 ∧ l'.length + CL.sizeL (kids.drop j) ≤ 1000 ∧ Hid (CL.raddL kids l = CL.raddL (kids.drop j) l')) (fun _ i _ => kids.length - (intOf i).toNat)
        case atStart => exact ⟨0, l, _, _, by omega, rfl, rfl, HOWN, Lib.hid (.inl hr0), World.grownBy.refl _ _, by simp; omega, Lib.hid (by simp)⟩
        case round =>
          obtain ⟨j, l', A', c', hj, rfl, rfl, HO, HRI, hgr, hlen, HL⟩ := hrel
          have hbE := hgr.blk bE HNE.out
          have e4 : wr.cell? ⟨w.heap.size, 4, none⟩ = some (.slice A kids.length c) := hbE.cell 4
          have hsr := hgr.size
          have hbel : Below base w wr := ((hx0.mono hbs).trans (grown_below hgr (by omega) (fun g hg => (HRO.out g hg).1)))
          have hbl2 := hbE.lt
          by_cases hlt : j < kids.length
          · have hKr := hK.below (hbel.mono hBb)
            obtain ⟨b, o, k1, s1, m1, u1, A1, l1, x1, rfl, hbB, hR, c0, c1, c2, c3, c4⟩ := hKr.get hlt
            have hst := sizeL_step hlt
            have HLN := Lib.hid (radd_len kids[j] l')
            have HE := Lib.hid (fun h => raddL_none (l := l') hlt h)
            have HS := Lib.hid (fun x h => raddL_some (l := l') (x := x) hlt h)
            have hm := List.getElem_mem hlt
            generalize kids[j] = e at *
            have hbx : b ≠ wr.heap.size := by omega
            cases hre : CL.radd e l' with
            | none =>
              go_wp2_with (go_at_call 74; (with_reducible refine (IH.out e hm _ B _ l' base A' c' hR hBb (by omega) HO.out (by omega)).mono ?_); intro r w' hp; obtain ⟨v, rfl, hgp⟩ := hp.un_n hre)
              go_ret2
              refine AddPost.mk_n (HP.out.trans (HL.out.trans (HE.out hre))) ?_
              refine grown_tr (grown_ext hx0) (grown_tr hgr hgp ?_) (.inl rfl)
              exact HRI.out
            | some x =>
              have hlx := HLN.out x hre
              go_wp2_with (go_at_call 74; (with_reducible refine (IH.out e hm _ B _ l' base A' c' hR hBb (by omega) HO.out (by omega)).mono ?_); intro r w' hp; obtain ⟨v, rfl, hown', hri', hgp⟩ := hp.un_s hre; obtain ⟨A2, c2, rfl, _, _⟩ := own_form hown')
              exact ⟨⟨j + 1, _, A2, c2, by omega, by go_num, rfl, hown', HRI.out.tr hsr hri', grown_tr hgr hgp HRI.out, by omega, Lib.hid (HL.out.trans (HS.out x hre))⟩, by simp [intOf]; omega⟩
          · go_wp2
            go_ret2
            refine AddPost.mk_s (HP.out.trans (HL.out.trans (raddL_end (by omega)))) HO.out ?_ ?_
            · rcases HRI.out with e | ⟨g, e, hg⟩
              · exact .inl e
              · exact .inr ⟨g, e, by omega⟩
            · exact grown_tr (grown_ext hx0) hgr (.inl rfl)
end Go.Proofs.Ytmolffigeobnnaa
/- The walk of clusterlocksref07.Atoms: the atoms of a valid expression, by the reference. -/
namespace Go.Proofs.Ytmolffigeobnnaa
open Go.RowKit
set_option maxRecDepth 100000
set_option linter.unusedVariables false
def DiTo (x : List CL.At) (j q : Nat) : Prop := ∀ p, (hp : p < x.length) → p < q → (hj : j < x.length) → x[p].n ≠ x[j].n
theorem DiTo.zero {x : List CL.At} {j : Nat} : DiTo x j 0 := fun p _ h => by omega
theorem DiTo.step {x : List CL.At} {j q : Nat} (h : DiTo x j q) (hq : q < x.length) (hj : j < x.length) (hne : ¬ x[j].n = x[q].n) : DiTo x j (q + 1) := by
  intro p hp h1 hj'
  by_cases e : p = q
  · subst e; exact fun e => hne e.symm
  · exact h p hp (by omega) hj'
theorem DiTo.hit {x : List CL.At} {j q : Nat} (hq : q < j) (hj : j < x.length) (he : x[j].n = x[q].n) : ¬ CL.Dist x := by
  intro hd
  exact (List.pairwise_iff_getElem.1 hd) q j (by omega) hj hq he.symm
theorem DiTo.done {x : List CL.At} {j : Nat} (h : DiTo x j j) (hj : j < x.length) (hd : CL.Dist (x.take j)) : CL.Dist (x.take (j + 1)) := by
  unfold CL.Dist at *
  rw [List.take_succ_eq_append_getElem hj, List.pairwise_append]
  refine ⟨hd, by simp, fun a ha b hb => ?_⟩
  simp at hb; subst hb
  rw [List.mem_take_iff_getElem] at ha
  obtain ⟨p, hp, rfl⟩ := ha
  exact h p (by omega) (by omega) hj
/-- what the reference's list of atoms gives back -/
def RAts (e : CL.Ex) (w : World) (r : Ending) (w' : World) : Prop := ∃ v, r = .returned (.tuple #[v, .bool (CL.valid e)]) ∧ w'.ownsRow w.heap.size 25 3 v (CL.atoms e).length (ats (CL.atoms e)) ∧ Ext w w'
theorem RAts.bad {e : CL.Ex} {w w' : World} (h : CL.valid e = false) (hx : Ext w w') : RAts e w (.returned (.tuple #[.slice none 0 0, .bool false])) w' := by
  refine ⟨.slice none 0 0, by rw [h], ?_, hx⟩
  rw [show CL.atoms e = [] by simp [CL.atoms, h]]
  exact ⟨rfl, .inl ⟨rfl, rfl⟩⟩
theorem RAts.good {e : CL.Ex} {w w' : World} {v : Value} {x : List CL.At} (h : CL.valid e = true ∧ CL.atoms e = x) (ho : w'.ownsRow w.heap.size 25 3 v x.length (ats x)) (hx : Ext w w') : RAts e w (.returned (.tuple #[v, .bool true])) w' :=
  ⟨v, by rw [h.1], by rw [h.2]; exact ho, hx⟩
theorem valid_small {e : CL.Ex} (h : CL.small e = false) : CL.valid e = false := by simp [CL.valid, h]
theorem valid_none {e : CL.Ex} (h : CL.radd e [] = none) : CL.valid e = false := by simp [CL.valid, h]
theorem valid_bad {e : CL.Ex} {x : List CL.At} (h : CL.radd e [] = some x) (hg : ¬ CL.Good x) : CL.valid e = false := by simp [CL.valid, h, hg]
theorem valid_good {e : CL.Ex} {x : List CL.At} (hs : CL.small e = true) (h : CL.radd e [] = some x) (hg : CL.Good x) : CL.valid e = true ∧ CL.atoms e = x := by
  have hv : CL.valid e = true := by simp [CL.valid, h, hg, hs]
  exact ⟨hv, by simp [CL.atoms, hv]; exact (CL.radd_coll e [] x h).symm⟩
theorem Add_0 (e : CL.Ex) (w : World) (B : Nat) (cs : List Value) (base : Nat) (hR : Rd w B e cs) (hB : B ≤ base) (hb : base ≤ w.heap.size) (h8 : CL.size e ≤ 900) :
    Calls Try.prog 74 #[.slice none 0 0, .agg cs.toArray] w (AddPost base e [] none w) := clusterlocksref07.Add_c e w B cs [] base none 0 hR hB hb ⟨rfl, .inl ⟨rfl, rfl⟩⟩ (by simp; omega)
set_option maxHeartbeats 1600000 in
theorem clusterlocksref07.Atoms_c (e : CL.Ex) (w : World) (B : Nat) (cs : List Value) (hR : Rd w B e cs) (hB : B ≤ w.heap.size) : Calls Try.prog 53 #[.agg cs.toArray] w (RAts e w) := by
  obtain ⟨k, s, m, u, A, l, c, rfl⟩ := hR.shape
  obtain ⟨bE, hx0⟩ := box1 w #[.int .i64 k, .string s, .int .i64 m, .int .i64 u, .slice A l c] 28
  have hz0 := hx0.size
  cases hs : CL.small e
  · have hn : CL.nod e = 0 := by simp [CL.nod, hs]
    have HV := Lib.hid (valid_small hs)
    go_enter Try.func53, Try.ntmps53
    go_wp2_with (go_at_call 32; (with_reducible refine (clusterlocksref07.Nodes_c e _ B _ (hR.ext hx0 hB) (by omega)).mono ?_); rintro r w' ⟨rfl, hx⟩)
    go_ret2
    exact RAts.bad HV.out (hx0.tr hx)
  · have hsz : CL.size e ≤ 24 := by simp [CL.small] at hs; exact hs.2
    have hn : ((CL.nod e : Int) == 0) = false := by
      have h1 := CL.size_pos e
      have h2 : CL.nod e = CL.size e := by simp [CL.nod, hs]
      exact beq_eq_false_iff_ne.2 (by omega)
    have HS := Lib.hid hs
    clear hs
    cases hr : CL.radd e [] with
    | none =>
      have HV := Lib.hid (valid_none hr)
      go_enter Try.func53, Try.ntmps53
      go_wp2_with (first
        | (go_at_call 32; (with_reducible refine (clusterlocksref07.Nodes_c e _ B _ (hR.ext hx0 hB) (by omega)).mono ?_); rintro r w' ⟨rfl, hx⟩; obtain ⟨e0, e1, e2, e3, e4⟩ := (bE.ext hx).c5; have hz1 := hx.size)
        | (go_at_call 74; (with_reducible refine (Add_0 e _ B _ w.heap.size ((hR.ext hx0 hB).ext hx (by omega)) hB (by omega) (by omega)).mono ?_); intro r w'' hp; obtain ⟨v, rfl, hgp⟩ := hp.un_n hr))
      all_goals
        go_ret2
        exact RAts.bad HV.out ((hx0.tr hx).trans (grown_below hgp (by omega) (fun g h => by cases h)))
    | some x =>
      go_enter Try.func53, Try.ntmps53
      go_wp2_with (first
        | (go_at_call 32; (with_reducible refine (clusterlocksref07.Nodes_c e _ B _ (hR.ext hx0 hB) (by omega)).mono ?_); rintro r w' ⟨rfl, hx⟩; obtain ⟨e0, e1, e2, e3, e4⟩ := (bE.ext hx).c5; have hz1 := hx.size)
        | (go_at_call 74; (with_reducible refine (Add_0 e _ B _ w.heap.size ((hR.ext hx0 hB).ext hx (by omega)) hB (by omega) (by omega)).mono ?_); intro r w'' hp; obtain ⟨v, rfl, hown, hri, hgp⟩ := hp.un_s hr; obtain ⟨A2, c2, rfl, hc1, hc2⟩ := own_form hown))
      all_goals have hxx : Ext w w'' := (hx0.tr hx).trans (grown_below hgp (by omega) (fun g h => by cases h))
      · rename_i h9
        go_ret2
        refine RAts.bad (valid_bad hr (fun hg => ?_)) hxx
        have := hg.1
        omega
      · rename_i h9
        have h8 : x.length ≤ 8 := by omega
        have HD : Hid (CL.Dist (x.take 0)) := Lib.hid (by simp [CL.Dist])
        have HOWN := Lib.hid hown
        have hr2 := Sits.of_own hown
        have HR := Lib.hid hr
        have hz2 := hgp.size
        clear hown hr hri hgp
        go_loopw [6, 7] (fun i q wr => ∃ j : Nat, j ≤ x.length ∧ i = .int .i64 j ∧ Ext w'' wr ∧ Hid (CL.Dist (x.take j))) (fun i _ _ => x.length - (intOf i).toNat)
        case atStart => exact ⟨0, by omega, rfl, Ext.rfl', HD⟩
        case round =>
          obtain ⟨j, hj, rfl, hy, HJ⟩ := hrel
          by_cases hlt : j < x.length
          · go_wp2
            go_loopw [7] (fun i2 wr2 => ∃ q : Nat, q ≤ j ∧ i2 = .int .i64 q ∧ Ext w'' wr2 ∧ Hid (DiTo x j q)) (fun i2 _ => j - (intOf i2).toNat)
            case atStart => exact ⟨0, by omega, rfl, hy, Lib.hid DiTo.zero⟩
            case round =>
              obtain ⟨q, hq, rfl, hy2, HQ⟩ := hrel
              by_cases hlt2 : q < j
              · obtain ⟨b, o, e1, c0, c1, c2⟩ := (hr2.ext hy2).atoms hlt
                obtain ⟨b', o', e2, d0, d1, d2⟩ := (hr2.ext hy2).atoms (show q < x.length by omega)
                obtain rfl := e1
                injection e2 with e2
                injection e2 with e2 e3
                subst e2 e3
                have H1 := Lib.hid (DiTo.hit hlt2 hlt)
                have H2 := Lib.hid (HQ.out.step (by omega) hlt)
                clear c1 c2 d1 d2
                generalize x[j].n = n1 at *
                generalize x[q].n = n2 at *
                have q0 := ExtOf.cell c0
                have q1 := ExtOf.cell d0
                have hqi : (q : Int) < (x.length : Int) := by omega
                by_cases heq : n1 = n2
                · have H3 := Lib.hid (H1.out heq)
                  have H4 := Lib.hid (valid_bad HR.out (fun hg => H3.out hg.2))
                  subst heq
                  go_wp2_with fail
                  refine wp_region_ext_lit (by kernel_rfl) (by kernel_rfl) ?_
                  repeat (go_big_quiet_step (fail))
                  refine wpQuiet_nil ?_
                  intro wq hw'
                  obtain ⟨⟨wq', hxq⟩, hw''⟩ := hw'
                  subst hw''
                  go_wp2
                  go_ret2
                  exact RAts.bad H4.out (hxx.tr (hy2.tr hxq))
                · have H3 := Lib.hid (H2.out heq)
                  have hne : (n1 == n2) = false := beq_eq_false_iff_ne.2 heq
                  clear heq
                  go_wp2_with fail
                  refine wp_region_ext_lit (by kernel_rfl) (by kernel_rfl) ?_
                  repeat (go_big_quiet_step (fail))
                  refine wpQuiet_nil ?_
                  intro wq hw'
                  obtain ⟨⟨wq', hxq⟩, hw''⟩ := hw'
                  subst hw''
                  go_wp2
                  exact ⟨⟨q + 1, by omega, by go_num, hy2.tr hxq, H3⟩, by simp [intOf]; omega⟩
              · obtain rfl : q = j := by omega
                have H3 := Lib.hid (HQ.out.done hlt HJ.out)
                go_wp2
                exact ⟨⟨q + 1, by omega, by go_num, hy2, H3⟩, by simp [intOf]; omega⟩
          · have H3 := Lib.hid (valid_good HS.out HR.out ⟨h8, by have := HJ.out; rwa [List.take_of_length_le (by omega)] at this⟩)
            go_wp2
            go_ret2
            exact RAts.good H3.out (own_ext HOWN.out hy) (hxx.tr hy)
theorem clusterlocksref07.ValidExpr_c (e : CL.Ex) (w : World) (B : Nat) (cs : List Value) (hR : Rd w B e cs) (hB : B ≤ w.heap.size) : Calls Try.prog 21 #[.agg cs.toArray] w fun r w' => r = .returned (.bool (CL.valid e)) ∧ Ext w w' := by
  obtain ⟨k, s, m, u, A, l, c, rfl⟩ := hR.shape
  have hx0 := Ext.new w (.cells #[.int .i64 k, .string s, .int .i64 m, .int .i64 u, .slice A l c] 28)
  have hz0 := hx0.size
  go_enter Try.func21, Try.ntmps21
  go_wp2_with (go_at_call 53; (with_reducible refine (clusterlocksref07.Atoms_c e _ B _ (hR.ext hx0 hB) (by omega)).mono ?_); rintro r w' ⟨v, rfl, hown, hx⟩; obtain ⟨A2, c2, rfl, hc1, hc2⟩ := own_form hown)
  go_ret
  exact ⟨rfl, hx0.tr hx⟩
theorem clusterlocksref08.Atoms_c (e : CL.Ex) (w : World) (B : Nat) (cs : List Value) (hR : Rd w B e cs) (hB : B ≤ w.heap.size) : Calls Try.prog 37 #[.agg cs.toArray] w (OwnAts w.heap.size (CL.atoms e) w) := by
  obtain ⟨k, s, m, u, A, l, c, rfl⟩ := hR.shape
  have hx0 := Ext.new w (.cells #[.int .i64 k, .string s, .int .i64 m, .int .i64 u, .slice A l c] 28)
  have hz0 := hx0.size
  go_enter Try.func37, Try.ntmps37
  go_wp2_with (go_at_call 53; (with_reducible refine (clusterlocksref07.Atoms_c e _ B _ (hR.ext hx0 hB) (by omega)).mono ?_); rintro r w' ⟨v, rfl, hown, hx⟩; obtain ⟨A2, c2, rfl, hc1, hc2⟩ := own_form hown)
  go_ret
  exact ⟨_, rfl, own_le hown hz0, hx0.tr hx⟩
end Go.Proofs.Ytmolffigeobnnaa
/- Truth of an expression: plain facts, and the walks of formula's has, eval, holds, Holds. -/
namespace Go.Proofs.Ytmolffigeobnnaa
open Go.RowKit
set_option linter.unusedVariables false
def hasA (l : List CL.At) (set : List Bool) (a : CL.At) : Bool := match ixo l a with | none => false | some i => set.getD i false
mutual
def ev (h : CL.At → Bool) : CL.Ex → Bool | .mk k a kids => if kids = [] then h a else decide (k ≤ (cnt h kids : Nat))
def cnt (h : CL.At → Bool) : List CL.Ex → Nat
  | [] => 0
  | e :: l => (if ev h e = true then 1 else 0) + cnt h l
end
theorem cnt_step {h : CL.At → Bool} {kids : List CL.Ex} {j : Nat} (hj : j < kids.length) : cnt h (kids.drop j) = (if ev h kids[j] = true then 1 else 0) + cnt h (kids.drop (j + 1)) := by
  rw [List.drop_eq_getElem_cons hj]; simp only [cnt]
theorem cnt_end {h : CL.At → Bool} {kids : List CL.Ex} {j : Nat} (hj : kids.length ≤ j) : cnt h (kids.drop j) = 0 := by
  rw [List.drop_eq_nil_of_le hj]; simp only [cnt]
/-- truth values as cells -/
def bls (l : List Bool) : List Value := l.map .bool
theorem bls_len (l : List Bool) : (bls l).length = l.length := by simp [bls]
theorem Sits.bool {w : World} {l : List Bool} {A : Option Addr} (hr : Sits w A (bls l)) {k : Nat} (h : k < l.length) : ∃ b o, A = some ⟨b, o, none⟩ ∧ w.cell? ⟨b, o + k, none⟩ = some (.bool l[k]) :=
  let ⟨b, o, e, hc⟩ := hr.get (by rw [bls_len]; omega)
  ⟨b, o, e, hc k _ (by simp [bls, h])⟩
theorem hasA_none {l : List CL.At} {set : List Bool} {a : CL.At} (h : ixo l a = none) : hasA l set a = false := by simp [hasA, h]
theorem hasA_some {l : List CL.At} {set : List Bool} {a : CL.At} {i : Nat} (h : ixo l a = some i) : hasA l set a = set.getD i false := by simp [hasA, h]
set_option maxHeartbeats 800000 in
theorem formula.has_c (l : List CL.At) (set : List Bool) (a : CL.At) (A S : Option Addr) (c d : Nat) (w : World) (hl : l.length ≤ maxLen) (hs : set.length ≤ maxLen) (hr : Sits w A (ats l)) (hrs : Sits w S (bls set)) :
    Calls Try.prog 88 #[.agg #[.slice A l.length c, .slice S set.length d], .agg #[.string ⟨a.n.toArray⟩, .int .i64 a.a.m, .int .i64 a.a.u]] w fun r w' => r = .returned (.bool (hasA l set a)) ∧ Ext w w' := by
  obtain ⟨nm, m, u⟩ := a
  unfold maxLen at hs
  have hx0 : Ext w ((w.alloc (.cells #[.slice A l.length c, .slice S set.length d] 94)).alloc (.cells #[.string ⟨nm.toArray⟩, .int .i64 m, .int .i64 u] 25)) := by go_grown
  have bC := (Blk.new w 94 #[.slice A l.length c, .slice S set.length d]).alloc (.cells #[.string ⟨nm.toArray⟩, .int .i64 m, .int .i64 u] 25)
  cases hi : ixo l ⟨nm, ⟨m, u⟩⟩ with
  | none =>
    have HV := Lib.hid (hasA_none (set := set) hi)
    have hx : ixi l ⟨nm, ⟨m, u⟩⟩ = -1 := by simp [ixi, hi]
    go_enter Try.func88, Try.ntmps88
    go_wp2_with (go_at_call 55; (with_reducible refine (atIndex_c l ⟨nm, ⟨m, u⟩⟩ _ _ _ hl (hr.ext hx0)).mono ?_); rintro r w' ⟨rfl, hx1⟩)
    go_ret
    exact ⟨ret_bool HV.out.symm, hx0.tr hx1⟩
  | some i =>
    have HV := Lib.hid (hasA_some (set := set) hi)
    have hx : ixi l ⟨nm, ⟨m, u⟩⟩ = (i : Int) := by simp [ixi, hi]
    by_cases hlt : i < set.length
    · have HG := Lib.hid (show set.getD i false = set[i] by simp [List.getD, hlt])
      obtain ⟨b, o, rfl, hc⟩ := hrs.bool hlt
      go_enter Try.func88, Try.ntmps88
      go_wp2_with (go_at_call 55; (with_reducible refine (atIndex_c l ⟨nm, ⟨m, u⟩⟩ _ _ _ hl (hr.ext hx0)).mono ?_); rintro r w' ⟨rfl, hx1⟩; have d0 : w'.cell? ⟨w.heap.size, 0, none⟩ = some (.slice A l.length c) := (bC.ext hx1).cell 0; have d1 : w'.cell? ⟨w.heap.size, 1, none⟩ = some (.slice (some ⟨b, o, none⟩) set.length d) := (bC.ext hx1).cell 1; have d2 := hx1.cell (hx0.cell hc))
      go_ret
      exact ⟨ret_bool (by rw [HV.out, HG.out]), hx0.tr hx1⟩
    · have HG := Lib.hid (show set.getD i false = false by simp [List.getD, List.getElem?_eq_none (show set.length ≤ i by omega)])
      go_enter Try.func88, Try.ntmps88
      go_wp2_with (go_at_call 55; (with_reducible refine (atIndex_c l ⟨nm, ⟨m, u⟩⟩ _ _ _ hl (hr.ext hx0)).mono ?_); rintro r w' ⟨rfl, hx1⟩; have d0 : w'.cell? ⟨w.heap.size, 0, none⟩ = some (.slice A l.length c) := (bC.ext hx1).cell 0; have d1 : w'.cell? ⟨w.heap.size, 1, none⟩ = some (.slice S set.length d) := (bC.ext hx1).cell 1)
      go_ret
      exact ⟨ret_bool (by rw [HV.out, HG.out]), hx0.tr hx1⟩
set_option maxHeartbeats 1600000 in
theorem formula.eval_c (l : List CL.At) (set : List Bool) (A S : Option Addr) (c d : Nat) (hl : l.length ≤ maxLen) (hs : set.length ≤ maxLen) (e : CL.Ex) : ∀ (w : World) (B : Nat) (cs : List Value), Rd w B e cs → B ≤ w.heap.size → Sits w A (ats l) → Sits w S (bls set) →
    Calls Try.prog 89 #[.agg cs.toArray, .func (.func 88) #[.agg #[.slice A l.length c, .slice S set.length d]] #[]] w fun r w' => r = .returned (.bool (ev (hasA l set) e)) ∧ Ext w w' := by
  induction e using CL.Ex.ind with
  | h k a kids ih =>
    intro w B cs hR hB hrl hrs
    obtain ⟨A0, c0, rfl, hnm, hkl, hkc, hK⟩ := hR.inv
    obtain ⟨nm, m, u⟩ := a
    have IH := Lib.hid ih
    clear ih hR
    unfold maxLen at hkl
    obtain ⟨bE, hx0⟩ := box1 w #[.int .i64 k, .string ⟨nm.toArray⟩, .int .i64 m, .int .i64 u, .slice A0 kids.length c0] 28
    have hz0 := hx0.size
    by_cases hkids : kids = []
    · subst hkids
      simp only [List.length_nil] at bE hx0 hz0
      have HP := Lib.hid (show ev (hasA l set) (.mk k ⟨nm, ⟨m, u⟩⟩ []) = hasA l set ⟨nm, ⟨m, u⟩⟩ by simp [ev])
      go_enter Try.func89, Try.ntmps89
      go_wp2_with (go_at_call 88; (with_reducible refine (formula.has_c l set ⟨nm, ⟨m, u⟩⟩ A S c d _ hl hs (hrl.ext hx0) (hrs.ext hx0)).mono ?_); rintro r w' ⟨rfl, hx1⟩)
      go_ret
      exact ⟨ret_bool HP.out.symm, hx0.tr hx1⟩
    · have hkl0 : ((kids.length : Int) == 0) = false := beq_eq_false_iff_ne.2 (fun h => hkids (List.eq_nil_of_length_eq_zero (by omega)))
      have HP := Lib.hid (show ev (hasA l set) (.mk k ⟨nm, ⟨m, u⟩⟩ kids) = decide (k ≤ (cnt (hasA l set) kids : Nat)) by simp only [ev]; rw [if_neg hkids])
      go_enter Try.func89, Try.ntmps89
      go_wp2
      generalize (w.alloc (.cells #[.int .i64 k, .string ⟨nm.toArray⟩, .int .i64 m, .int .i64 u, .slice A0 kids.length c0] 28)) = w1 at *
      go_loopw [5, 19] (fun n i wr => ∃ (j n' : Nat), j ≤ kids.length ∧ n' ≤ j ∧ i = .int .i64 j ∧ n = .int .i64 n' ∧ Ext w1 wr ∧ Hid (cnt (hasA l set) kids = n' + cnt (hasA l set) (kids.drop j))) (fun _ i _ => kids.length - (intOf i).toNat)
      case atStart => exact ⟨0, 0, by omega, by omega, rfl, rfl, Ext.rfl', Lib.hid (by simp)⟩
      case round =>
        obtain ⟨j, n', hj, hn', rfl, rfl, hx, HL⟩ := hrel
        have hzr := hx.size
        have hbE := bE.ext hx
        have hbl := hbE.lt
        by_cases hlt : j < kids.length
        · have hKr := hK.below ((hx0.tr hx).mono hB)
          obtain ⟨b, o, k1, s1, m1, u1, A1, l1, x1, rfl, hbB, hR, c0, c1, c2, c3, c4⟩ := hKr.get hlt
          have HS := Lib.hid (cnt_step (h := hasA l set) hlt)
          have hm := List.getElem_mem hlt
          generalize kids[j] = e at *
          have hbx : b ≠ wr.heap.size := by omega
          have hxr := (hx0.tr hx).tr (Ext.new wr (.cells #[.int .i64 k1, .string s1, .int .i64 m1, .int .i64 u1, .slice A1 l1 x1] 28))
          cases hev : ev (hasA l set) e
          all_goals
            go_wp2_with (go_at_call 89; (with_reducible refine (IH.out e hm _ B _ (hR.kept ((Below.refl _ _).alloc (by omega) _)) (by simp; omega) (hrl.ext hxr) (hrs.ext hxr)).mono ?_); rintro r w' ⟨rfl, hx1⟩)
            first
              | exact ⟨⟨j + 1, n' + 1, by omega, by omega, by go_num, by go_num, hx.tr ((Ext.new _ _).tr hx1), Lib.hid (by rw [HL.out, HS.out, hev]; simp; omega)⟩, by simp [intOf]; omega⟩
              | exact ⟨⟨j + 1, n', by omega, by omega, by go_num, rfl, hx.tr ((Ext.new _ _).tr hx1), Lib.hid (by rw [HL.out, HS.out, hev]; simp)⟩, by simp [intOf]; omega⟩
        · have e0 : wr.cell? ⟨w.heap.size, 0, none⟩ = some (.int .i64 k) := hbE.cell 0
          go_wp2
          go_ret
          refine ⟨ret_bool ?_, hx0.tr hx⟩
          rw [HP.out, HL.out, cnt_end (by omega)]
          simp
theorem formula.holds_c (l : List CL.At) (set : List Bool) (A S : Option Addr) (c d : Nat) (hl : l.length ≤ maxLen) (hs : set.length ≤ maxLen) (e : CL.Ex) (w : World) (B : Nat) (cs : List Value) (hR : Rd w B e cs) (hB : B ≤ w.heap.size) (hrl : Sits w A (ats l)) (hrs : Sits w S (bls set)) :
    Calls Try.prog 73 #[.agg cs.toArray, .slice A l.length c, .slice S set.length d] w fun r w' => r = .returned (.bool (ev (hasA l set) e)) ∧ Ext w w' := by
  obtain ⟨k, s, m, u, A1, l1, c1, rfl⟩ := hR.shape
  have hx0 := Ext.new w (.cells #[.int .i64 k, .string s, .int .i64 m, .int .i64 u, .slice A1 l1 c1] 28)
  have hz0 := hx0.size
  go_enter Try.func73, Try.ntmps73
  go_wp2_with (go_at_call 89; (with_reducible refine (formula.eval_c l set A S c d hl hs e _ B _ (hR.ext hx0 hB) (by omega) (hrl.ext hx0) (hrs.ext hx0)).mono ?_); rintro r w' ⟨rfl, hx⟩)
  go_ret
  exact ⟨rfl, hx0.tr hx⟩
end Go.Proofs.Ytmolffigeobnnaa
/- The walks of formula's Holds, Hopeless, Prune, Class. -/
namespace Go.Proofs.Ytmolffigeobnnaa
open Go.RowKit
set_option linter.unusedVariables false
theorem radd_ne (e : CL.Ex) : ∀ l x : List CL.At, CL.radd e l = some x → x ≠ [] := by
  induction e using CL.Ex.ind with
  | h k a kids ih =>
    intro l x h
    simp only [CL.radd] at h
    split at h
    · split at h
      · injection h with h
        subst h
        split
        · rename_i hm; intro e; rw [e] at hm; simp at hm
        · simp
      · cases h
    · rename_i hk
      split at h
      · cases h
      · cases kids with
        | nil => exact absurd rfl hk
        | cons e ks =>
          simp only [CL.raddL] at h
          split at h
          · cases h
          · rename_i y hy
            have h1 := ih e (by simp) l y hy
            have hpre : ∀ (ks : List CL.Ex) (l x : List CL.At), CL.raddL ks l = some x → ∃ r, x = l ++ r := by
              intro ks
              induction ks with
              | nil => intro l x h; simp [CL.raddL] at h; exact ⟨[], by simp [h]⟩
              | cons e ks ihk =>
                intro l x h
                simp only [CL.raddL] at h
                split at h
                · cases h
                · rename_i y hy
                  obtain ⟨r1, rfl⟩ := CL.radd_pre e l y hy
                  obtain ⟨r2, rfl⟩ := ihk _ _ h
                  exact ⟨r1 ++ r2, by simp⟩
            obtain ⟨r, rfl⟩ := hpre ks y x h
            intro e0
            rw [List.append_eq_nil_iff] at e0
            exact h1 e0.1
theorem atoms_ne {e : CL.Ex} (h : CL.valid e = true) : CL.atoms e ≠ [] := by
  have h1 := CL.valid_coll h
  have h2 := radd_ne e [] _ h1.1
  simpa [CL.atoms, h] using h2
theorem atoms_len (e : CL.Ex) : (CL.atoms e).length ≤ 8 := by
  unfold CL.atoms
  split
  · rename_i h; exact (CL.valid_coll h).2.1.1
  · simp
theorem atoms_nil {e : CL.Ex} (h : CL.valid e = false) : CL.atoms e = [] := by simp [CL.atoms, h]
def holdsE (e : CL.Ex) (set : List Bool) : Bool := CL.valid e && ev (hasA (CL.atoms e) set) e
def restOf (n : Nat) (dead : List Bool) : List Bool := (List.range n).map (fun i => !(dead.getD i false))
def hpl (e : CL.Ex) (dead : List Bool) : Bool := CL.valid e && !ev (hasA (CL.atoms e) (restOf (CL.atoms e).length dead)) e
theorem OwnAts.get {base : Nat} {l : List CL.At} {w w' : World} {r : Ending} (h : OwnAts base l w r w') : ∃ A c, r = .returned (.slice A l.length c) ∧ Sits w' A (ats l) ∧ Below base w w' := by
  obtain ⟨v, rfl, ho, hb⟩ := h
  obtain ⟨A, c, rfl, _, _⟩ := own_form ho
  exact ⟨A, c, rfl, Sits.of_own ho, hb⟩
theorem formula.Holds_c (e : CL.Ex) (set : List Bool) (S : Option Addr) (d : Nat) (hs : set.length ≤ maxLen) (w : World) (B : Nat) (cs : List Value) (hR : Rd w B e cs) (hB : B ≤ w.heap.size) (hrs : Sits w S (bls set)) :
    Calls Try.prog 48 #[.agg cs.toArray, .slice S set.length d] w fun r w' => r = .returned (.bool (holdsE e set)) ∧ Ext w w' := by
  obtain ⟨k, s, m, u, A1, l1, c1, rfl⟩ := hR.shape
  obtain ⟨bE, hx0⟩ := box1 w #[.int .i64 k, .string s, .int .i64 m, .int .i64 u, .slice A1 l1 c1] 28
  have hz0 := hx0.size
  have hl8 := atoms_len e
  cases hv : CL.valid e
  · have HV := Lib.hid (show holdsE e set = false by simp [holdsE, hv])
    have hn := atoms_nil hv
    have hat := formula.Atoms_c e _ B _ (hR.ext hx0 hB) (by omega)
    rw [hn] at hat
    have HAT := Lib.hid hat
    clear hat hn hl8
    go_enter Try.func48, Try.ntmps48
    go_wp2_with (go_at_call 46; (with_reducible refine HAT.out.mono ?_); intro r w' hp; obtain ⟨A2, c2, rfl, hr2, hx⟩ := hp.get)
    go_ret
    exact ⟨ret_bool HV.out.symm, hx0.tr hx⟩
  · have HV := Lib.hid (show holdsE e set = ev (hasA (CL.atoms e) set) e by simp [holdsE, hv])
    have hn : 0 < (CL.atoms e).length := List.length_pos_iff.2 (atoms_ne hv)
    go_enter Try.func48, Try.ntmps48
    go_wp2_with (first
      | (go_at_call 46; (with_reducible refine (formula.Atoms_c e _ B _ (hR.ext hx0 hB) (by omega)).mono ?_); intro r w' hp; obtain ⟨A2, c2, rfl, hr2, hx⟩ := hp.get; obtain ⟨e0, e1, e2, e3, e4⟩ := (bE.ext hx).c5; have hz1 := hx.size)
      | (go_at_call 73; (with_reducible refine (formula.holds_c (CL.atoms e) set _ S _ d (by unfold maxLen; omega) hs e _ B _ ((hR.ext hx0 hB).ext hx (by omega)) (by omega) hr2 ((hrs.ext hx0).ext hx)).mono ?_); rintro r w'' ⟨rfl, hx1⟩))
    go_ret
    exact ⟨ret_bool HV.out.symm, hx0.tr (Ext.tr hx hx1)⟩
theorem bls_set {L : List Bool} {j : Nat} {b : Bool} : (bls L).toArray.setIfInBounds j (.bool b) = (bls (L.set j b)).toArray := by simp [bls, List.map_set]
theorem Blk.sits {w : World} {g : Nat} {t : TypeId} {xs : List Value} (h : Blk w g t xs.toArray) : Sits w (some ⟨g, 0, none⟩) xs := fun _ =>
  ⟨g, 0, rfl, fun j u hu => by rw [Nat.zero_add, h.cell]; simpa using hu⟩
theorem bool_info : (Try.prog.info? 4).map (fun i => (i.zero, i.size, i.bytes)) = some (some (.bool false), 1, 1) := by kernel_rfl
theorem mk_bools (n : Nat) (hn : n ≤ 1000) (W : World) : (Instr.makeSlice 34 (.int .i64 (n : Int)) (.int .i64 (n : Int))).run Try.prog W = .ok (.slice (some ⟨W.heap.size, 0, none⟩) n n) (W.alloc (.cells (bls (List.replicate n false)).toArray 4)) := by
  obtain ⟨i, hi, hz, hsz, hby⟩ := info_parts bool_info
  have h := run_make (P := Try.prog) W 34 4 i _ Try.underlying34 hi hz .i64 .i64 (n : Int) (n : Int) (by omega) (by omega) (by rw [hby]; omega) (by omega)
  rw [h, hsz]
  simp only [Int.toNat_natCast, Nat.mul_one]
  have e : madeCells (Value.bool false).cells n = (bls (List.replicate n false)).toArray := by
    apply Array.ext
    · simp [madeCells, bls]
    · intro j h1 h2
      simp [madeCells, bls, Value.cells, Nat.mod_one]
  rw [e]
/-- the truth values written so far are those of f -/
def Filled (f : Nat → Bool) (L : List Bool) (n j : Nat) : Prop := L.length = n ∧ ∀ i, i < j → (hi : i < L.length) → L[i] = f i
theorem Filled.zero (f : Nat → Bool) (n : Nat) : Filled f (List.replicate n false) n 0 := ⟨by simp, fun i h => by omega⟩
theorem Filled.step {f : Nat → Bool} {L : List Bool} {n j : Nat} (h : Filled f L n j) : Filled f (L.set j (f j)) n (j + 1) := by
  refine ⟨by simp [h.1], fun i hi hl => ?_⟩
  rw [List.getElem_set]
  split
  · rename_i e; rw [e]
  · exact h.2 i (by omega) (by simpa using hl)
theorem Filled.done {f : Nat → Bool} {L : List Bool} {n j : Nat} (h : Filled f L n j) (hj : n ≤ j) : L = (List.range n).map f := by
  apply List.ext_getElem
  · simp [h.1]
  · intro i h1 h2
    rw [h.2 i (by have := h.1; omega) h1]; simp
set_option maxHeartbeats 1600000 in
theorem formula.Hopeless_c (e : CL.Ex) (dead : List Bool) (S : Option Addr) (d : Nat) (hs : dead.length ≤ maxLen) (w : World) (B : Nat) (cs : List Value) (hR : Rd w B e cs) (hB : B ≤ w.heap.size) (hrs : Sits w S (bls dead)) :
    Calls Try.prog 63 #[.agg cs.toArray, .slice S dead.length d] w fun r w' => r = .returned (.bool (hpl e dead)) ∧ Ext w w' := by
  obtain ⟨k, s, m, u, A1, l1, c1, rfl⟩ := hR.shape
  obtain ⟨bE, hx0⟩ := box1 w #[.int .i64 k, .string s, .int .i64 m, .int .i64 u, .slice A1 l1 c1] 28
  have hz0 := hx0.size
  have hl8 := atoms_len e
  unfold maxLen at hs
  cases hv : CL.valid e
  · have HV := Lib.hid (show hpl e dead = false by simp [hpl, hv])
    have hn := atoms_nil hv
    have hat := formula.Atoms_c e _ B _ (hR.ext hx0 hB) (by omega)
    rw [hn] at hat
    have HAT := Lib.hid hat
    clear hat hn hl8
    go_enter Try.func63, Try.ntmps63
    go_wp2_with (go_at_call 46; (with_reducible refine HAT.out.mono ?_); intro r w' hp; obtain ⟨A2, c2, rfl, hr2, hx⟩ := hp.get)
    go_ret
    exact ⟨ret_bool HV.out.symm, hx0.tr hx⟩
  · have HV := Lib.hid (show hpl e dead = !ev (hasA (CL.atoms e) (restOf (CL.atoms e).length dead)) e by simp [hpl, hv])
    have hn : 0 < (CL.atoms e).length := List.length_pos_iff.2 (atoms_ne hv)
    have hn0 : (((CL.atoms e).length : Int) == 0) = false := beq_eq_false_iff_ne.2 (by omega)
    have HAT := Lib.hid (formula.Atoms_c e _ B _ (hR.ext hx0 hB) (by omega))
    generalize hN : CL.atoms e = L0 at *
    have HN := Lib.hid hN
    clear hN
    have hmk := mk_bools L0.length (by omega)
    go_enter Try.func63, Try.ntmps63
    go_wp2_with (go_at_call 46; (with_reducible refine HAT.out.mono ?_); intro r w' hp; obtain ⟨A2, c2, rfl, hr2, hx⟩ := hp.get)
    have hbE := bE.ext hx
    have HRA := Lib.hid hr2
    have hxw := hx0.tr hx
    have hz1 := hx.size
    have HXW := Lib.hid hx
    clear hx hr2 HAT hmk
    generalize hn2 : L0.length = n at *
    have hbS := Blk.new w' 4 (bls (List.replicate n false)).toArray
    have hxS := Ext.new w' (.cells (bls (List.replicate n false)).toArray 4)
    have hg : w.heap.size < w'.heap.size := hbE.lt
    generalize hG : w'.heap.size = g at *
    generalize (w'.alloc (.cells (bls (List.replicate n false)).toArray 4)) = w2 at *
    go_loopw [18] (fun i wr => ∃ (j : Nat) (L : List Bool), j ≤ n ∧ i = .int .i64 j ∧ Only g w2 wr ∧ Blk wr g 4 (bls L).toArray ∧ Hid (Filled (fun i => !(dead.getD i false)) L n j)) (fun i _ => n - (intOf i).toNat)
    case atStart => exact ⟨0, _, by omega, rfl, Only.rf, hbS, Filled.zero _ _⟩
    case round =>
      obtain ⟨j, L, hj, rfl, ho, hb, HF⟩ := hrel
      have hlen := HF.out.1
      have hsz := ho.size
      by_cases hlt : j < n
      · have hbs := hb.set j (.bool (!(dead.getD j false)))
        rw [bls_set] at hbs
        have s0 : wr.cell? ⟨g, j, none⟩ = some (.bool (L[j]'(by omega))) := by rw [hb.cell]; simp [bls, show j < L.length by omega]
        have z0 := hb.frozen j
        have hji : (j : Int) < (n : Int) := by omega
        by_cases hd : j < dead.length
        · have hgd : dead.getD j false = dead[j] := by simp [List.getD, hd]
          rw [hgd] at hbs
          obtain ⟨b, o, rfl, hc⟩ := (hrs.ext hxw).bool hd
          have hbw := World.block_lt_of_cell? _ _ hc
          have hc2 : wr.cell? ⟨b, o + j, none⟩ = some (.bool dead[j]) := ho.cell (hxS.cell hc) (by intro e; injection e with e; simp at hbw e; omega)
          have hjd : ¬ (dead.length : Int) ≤ (j : Int) := by omega
          have HF2 := Lib.hid HF.out.step
          rw [hgd] at HF2
          clear hc hgd
          go_wp2
          exact ⟨⟨j + 1, _, by omega, by go_num, ho.set _ _, hbs, HF2⟩, by simp [intOf]; omega⟩
        · have hgd : dead.getD j false = false := by simp [List.getD, List.getElem?_eq_none (show dead.length ≤ j by omega)]
          rw [hgd] at hbs
          have hjd : (dead.length : Int) ≤ (j : Int) := by omega
          have HF2 := Lib.hid HF.out.step
          rw [hgd] at HF2
          clear hgd
          go_wp2
          exact ⟨⟨j + 1, _, by omega, by go_num, ho.set _ _, hbs, HF2⟩, by simp [intOf]; omega⟩
      · have hL := HF.out.done (by omega)
        obtain ⟨e0, e1, e2, e3, e4⟩ := ((hbE.ext hxS).only ho (by omega)).c5
        have hxr : Ext w' wr := Ext.only hxS ho (by omega)
        have hsl : Sits wr (some ⟨g, 0, none⟩) (bls L) := hb.sits
        have HSL := Lib.hid hsl
        have HLL := Lib.hid (show ev (hasA L0 (restOf n dead)) e = ev (hasA L0 L) e by rw [hL]; rfl)
        have HX := Lib.hid hxr
        have hsL : L.length ≤ maxLen := by unfold maxLen; omega
        have hzr := hxr.size
        obtain rfl := hlen
        clear hsl hL hxr HF
        have hc := fun c2 => formula.holds_c L0 L A2 (some ⟨g, 0, none⟩) c2 L.length (by unfold maxLen; omega) hsL e wr B _ ((hR.ext hx0 hB).ext (Ext.tr HXW.out HX.out) (by omega)) (by omega) (HRA.out.ext HX.out) HSL.out
        rw [hn2] at hc
        have HC := Lib.hid hc
        clear hc
        go_wp2_with (go_at_call 73; (with_reducible refine (HC.out _).mono ?_); rintro r w'' ⟨rfl, hx1⟩)
        go_ret
        exact ⟨ret_bool (by rw [HV.out, HLL.out]), hxw.tr (HX.out.tr hx1)⟩
end Go.Proofs.Ytmolffigeobnnaa
