
/- The walk of the reference's simplify. -/
import Derived.Test.YtmolffigeobnnaaNsw
import Derived.Test.YtmolffigeobnnaaSd
namespace Go.Proofs.Ytmolffigeobnnaa
open Go.RowKit
set_option linter.unusedVariables false
set_option linter.unusedSimpArgs false
set_option maxRecDepth 100000
/-- which groups are opened -/
def qOf (one all : Bool) (x : CL.Ex) : Bool := (one && CL.pAny x) || (all && CL.pAll x)
theorem Wf.pos {k : Int} {a : CL.At} {kids : List CL.Ex} (h : CL.Wf (.mk k a kids)) : kids = [] ↔ ¬ 0 < k := by
  cases h with
  | leaf a hv => simp
  | node k kids h0 h1 h2 h => simp [h0]; omega
/-- one more kid: kept, or opened -/
theorem opn_step (one all : Bool) {kids : List CL.Ex} {j : Nat} (hj : j < kids.length) (hw : CL.Wf kids[j]) :
    ∃ k a ks, CL.smp kids[j] = .mk k a ks ∧ (¬ 0 < k ∨ ((one && k == 1) || (all && k == (ks.length : Int))) = false → CL.opn (qOf one all) ((CL.smpL kids).take (j + 1)) = CL.opn (qOf one all) ((CL.smpL kids).take j) ++ [.mk k a ks]) ∧
      (0 < k → ((one && k == 1) || (all && k == (ks.length : Int))) = true → CL.opn (qOf one all) ((CL.smpL kids).take (j + 1)) = CL.opn (qOf one all) ((CL.smpL kids).take j) ++ ks) := by
  have hj' : j < (CL.smpL kids).length := by rw [CL.smpL_len]; exact hj
  have e : (CL.smpL kids)[j] = CL.smp kids[j] := by simp [CL.smpL_map]
  have hs := (CL.smp_facts hw).1
  have ho := opn_take (p := qOf one all) hj'
  rw [e] at ho
  generalize CL.smp kids[j] = x at *
  obtain ⟨k, a, ks⟩ := x
  have hp := Wf.pos hs
  have hq : qOf one all (.mk k a ks) = ((one && k == 1) || (all && k == (ks.length : Int))) := by
    simp only [qOf, CL.pAny, CL.pAll, CL.Ex.k, CL.Ex.kids]
    congr 1
  refine ⟨k, a, ks, rfl, fun h => ?_, fun h1 h2 => ?_⟩
  · rw [ho, if_pos]
    rcases h with h | h
    · exact .inl (hp.2 h)
    · exact .inr (by rw [hq]; exact h)
  · rw [ho, if_neg]
    · rfl
    · rw [hq, h2]
      simp only [Bool.true_eq_false, or_false]
      exact fun h => hp.1 h h1
theorem KidsI.snocs {w : World} {base lo hi : Nat} {v : Value} {kids : List CL.Ex} {vs : List (List Value)} (h : KidsI w base v kids vs) {ks : List CL.Ex} {ws : List (List Value)} (hlen : ws.length = ks.length) (hr : ∀ i (h1 : i < ks.length) (h2 : i < ws.length), RdI w lo hi ks[i] ws[i])
    (h3 : base ≤ lo) (h4 : hi ≤ w.heap.size) (hv : ∀ b, v.ownBlock = some b → b < lo ∨ hi ≤ b) : KidsI w base v (kids ++ ks) (vs ++ ws) := by
  obtain ⟨hl, h⟩ := h
  refine ⟨by simp [hl, hlen], fun i h1 h2 => ?_⟩
  rcases Nat.lt_or_ge i kids.length with hlt | hge
  · have e1 : (kids ++ ks)[i] = kids[i] := List.getElem_append_left hlt
    have e2 : (vs ++ ws)[i] = vs[i]'(by omega) := List.getElem_append_left (by omega)
    rw [e1, e2]; exact h i hlt (by omega)
  · simp only [List.length_append] at h1 h2
    have e1 : (kids ++ ks)[i] = ks[i - kids.length]'(by omega) := List.getElem_append_right hge
    have e2 : (vs ++ ws)[i] = ws[i - kids.length]'(by omega) := by
      rw [List.getElem_append_right (by omega)]
      simp only [hl]
    rw [e1, e2]; exact ⟨lo, hi, h3, h4, hr _ _ _, hv⟩
theorem RdI.k {w : World} {lo hi : Nat} {k k' : Int} {a : CL.At} {kids : List CL.Ex} {v1 v2 v3 v4 : Value} (h : RdI w lo hi (.mk k a kids) [.int .i64 k', v1, v2, v3, v4]) : k' = k := by
  obtain ⟨A', c', vs, e, _⟩ := h.inv
  simp only [List.cons.injEq, Value.int.injEq, true_and] at e
  exact e.1
theorem uniq_take {l : List CL.Ex} {j : Nat} (hj : j < l.length) : CL.uniq (l.take (j + 1)) = CL.addU (CL.uniq (l.take j)) l[j] := by
  unfold CL.uniq
  rw [List.take_succ_eq_append_getElem hj, List.foldl_append]; rfl
theorem uniq_len (l : List CL.Ex) : (CL.uniq l).length ≤ l.length := by
  have := foldU_len l []
  rw [List.length_nil, Nat.zero_add] at this
  exact this
theorem mem_step {l : List CL.Ex} {x : CL.Ex} {m : Nat} (hm : m < l.length) : decide (x ∈ l.take (m + 1)) = (decide (x ∈ l.take m) || CL.eqE l[m] x) := by
  rw [List.take_succ_eq_append_getElem hm, CL.eqE_eq, Bool.eq_iff_iff]
  simp only [List.mem_append, List.mem_singleton, decide_eq_true_eq, Bool.or_eq_true]
  exact or_congr Iff.rfl eq_comm
theorem opn_no (l : List CL.Ex) : CL.opn (qOf false false) l = l := by
  unfold CL.opn qOf
  induction l with
  | nil => rfl
  | cons x l ih => simp
theorem opn_qAny (l : List CL.Ex) : CL.opn (qOf true false) l = CL.opn CL.pAny l := by
  have : qOf true false = CL.pAny := by funext x; simp [qOf]
  rw [this]
theorem opn_qAll (l : List CL.Ex) : CL.opn (qOf false true) l = CL.opn CL.pAll l := by
  have : qOf false true = CL.pAll := by funext x; simp [qOf]
  rw [this]
theorem KidsH.one {w : World} {lo hi : Nat} {A : Option Addr} {ks : List CL.Ex} (h : KidsH w lo hi A ks) : ∃ ws : List (List Value), ws.length = ks.length ∧ ws.flatten.length = ks.length * 5 ∧ Sits w A ws.flatten ∧ (∀ u ∈ ws.flatten, u.oneCell' = true) ∧ ∀ i (h1 : i < ks.length) (h2 : i < ws.length), RdI w lo hi ks[i] ws[i] := by
  obtain ⟨ws, h1, h2, h3⟩ := h
  have h5 : ∀ v ∈ ws, v.length = 5 := fun v hv => by
    obtain ⟨i, hi, rfl⟩ := List.mem_iff_getElem.1 hv
    exact (h3 i (by omega) hi).len
  refine ⟨ws, h1, by rw [flat_len h5, h1], fun hn => ?_, fun u hu => ?_, h3⟩
  · obtain ⟨b, o, e, _, _, hc⟩ := h2 hn
    exact ⟨b, o, e, hc⟩
  · obtain ⟨v, hv, hu⟩ := List.mem_flatten.1 hu
    obtain ⟨i, hi, rfl⟩ := List.mem_iff_getElem.1 hv
    obtain ⟨k, n, m, u', A', l, c, e⟩ := (h3 i (by omega) hi).shape
    rw [e] at hu
    simp only [List.mem_cons, List.not_mem_nil, or_false] at hu
    rcases hu with rfl | rfl | rfl | rfl | rfl <;> rfl
theorem KidsH.low {w : World} {lo hi : Nat} {A : Option Addr} {ks : List CL.Ex} (h : KidsH w lo hi A ks) (hk : 0 < ks.length) {b o : Nat} (e : A = some ⟨b, o, none⟩) : lo ≤ b := by
  obtain ⟨vs, h1, h2, h3⟩ := h
  have h5 : ∀ v ∈ vs, v.length = 5 := fun v hv => by
    obtain ⟨i, hi, rfl⟩ := List.mem_iff_getElem.1 hv
    exact (h3 i (by omega) hi).len
  have hn : vs.flatten ≠ [] := fun hn => by
    have := flat_len h5
    rw [hn, h1, List.length_nil] at this
    omega
  obtain ⟨b', o', e', h6, _⟩ := h2 hn
  rw [e] at e'
  injection e' with e'
  injection e' with e'
  omega
set_option maxHeartbeats 12800000 in
theorem clusterlocksref09.simplify_c (e : CL.Ex) (hw : CL.Wf e) : CL.size e ≤ 100 → ∀ (w : World) (B : Nat) (cs : List Value), Rd w B e cs → B ≤ w.heap.size → Calls Try.prog 60 #[.agg cs.toArray] w (MadeE (CL.smp e) w) := by
  induction hw with
  | leaf a hv =>
    intro _ w B cs hR hB
    obtain ⟨A, c, rfl, hnm, hkl, hkc, hK⟩ := hR.inv
    obtain ⟨nm, m, u⟩ := a
    have HD := Lib.hid (show CL.smp (.mk 0 ⟨nm, ⟨m, u⟩⟩ []) = .mk 0 ⟨nm, ⟨m, u⟩⟩ [] by simp [CL.smp])
    have HP := Lib.hid (fun (w' : World) (hx : Ext w w') => (show MadeE (CL.smp (.mk 0 ⟨nm, ⟨m, u⟩⟩ [])) w (.returned (.agg #[.int .i64 0, .string ⟨nm.toArray⟩, .int .i64 m, .int .i64 u, .slice A 0 c])) w' by
      rw [HD.out]; exact ⟨_, rfl, RdI.leaf w' _ _ 0 ⟨nm, ⟨m, u⟩⟩ A c hnm, hx⟩))
    clear hR hK
    go_enter Try.func60, Try.ntmps60
    go_wp2
    (try simp only [Exit.inBlock, Exit.then])
    refine bodyPost_ret (by simp [results, Try.results60, go_sem, *]; try rfl) rfl ?_
    exact HP.out _ (by go_grown)
  | node k kids h0 h1 h2 hk ih =>
    intro hsz w B cs hR hB
    obtain ⟨A, c, rfl, hnm, hkl, hkc, hK⟩ := hR.inv
    simp only [CL.size] at hsz
    have hks : kids.length ≤ 100 := by have := CL.len_sizeL kids; omega
    have HSZ := Lib.hid (fun e (h : e ∈ kids) => (by have := size_mem h; omega : CL.size e ≤ 100))
    have HSL := Lib.hid (show CL.sizeL (CL.smpL kids) ≤ 100 by have := smpL_size hk; omega)
    clear hsz
    have hk0 : (k == 0) = false := beq_eq_false_iff_ne.2 (by omega)
    have HIH := Lib.hid ih
    have HWF := Lib.hid hk
    clear ih hR
    unfold maxLen at hkl
    have HD := Lib.hid (show CL.smp (.mk k CL.noAt kids) = CL.fin k (CL.smpL kids) by simp only [CL.smp]; rw [if_neg h0])
    simp only [CL.noAt] at *
    obtain ⟨hbA, hbB, hxW⟩ := boxE2 w #[.int .i64 k, .string ⟨#[]⟩, .int .i64 0, .int .i64 0, .slice A kids.length c] 28 #[.int .i64 0, .string ⟨#[]⟩, .int .i64 0, .int .i64 0, .slice none 0 0] 28
    have hzW : ((w.alloc (.cells #[.int .i64 k, .string ⟨#[]⟩, .int .i64 0, .int .i64 0, .slice A kids.length c] 28)).alloc (.cells #[.int .i64 0, .string ⟨#[]⟩, .int .i64 0, .int .i64 0, .slice none 0 0] 28)).heap.size = w.heap.size + 2 := by simp
    have hdl : (CL.smpL kids).length = kids.length := CL.smpL_len kids
    by_cases h1l : kids.length = 1
    · have hl1 : ((kids.length : Int) == 1) = true := by simp [h1l]
      have hpos : 0 < kids.length := by omega
      obtain ⟨b, o, k1, s1, m1, u1, A1, l1, x1, rfl, hbB1, hRk, c0, c1, c2, c3, c4⟩ := (hK.below (hxW.mono hB)).get hpos
      simp only [Nat.zero_mul, Nat.add_zero] at c0 c1 c2 c3 c4
      have HE := Lib.hid (show CL.smp (.mk k ⟨[], ⟨0, 0⟩⟩ kids) = CL.smp kids[0] by
        rw [HD.out, fin_one (by rw [hdl]; exact h1l)]; simp [CL.smpL_map])
      have hm := List.getElem_mem hpos
      generalize kids[0] = ek at *
      clear h1l hdl
      go_enter Try.func60, Try.ntmps60
      go_wp2_with fail
      generalize ((w.alloc (.cells #[.int .i64 k, .string ⟨#[]⟩, .int .i64 0, .int .i64 0, .slice (some ⟨b, o, none⟩) kids.length c] 28)).alloc (.cells #[.int .i64 0, .string ⟨#[]⟩, .int .i64 0, .int .i64 0, .slice none 0 0] 28)) = W at *
      refine (HIH.out ek hm (HSZ.out ek hm) W B _ hRk (by omega)).mono ?_
      intro r wc hp
      obtain ⟨k', n', m', u', A2, l2, x2, rfl, hR2, hxc⟩ := hp.get
      rw [← HE.out] at hR2
      have hbB' := hbB.ext hxc
      obtain ⟨q0, q1, q2, q3, q4⟩ := hbB'.c5
      have f0 := hbB'.frozen 0
      have f1 := hbB'.frozen 1
      have f2 := hbB'.frozen 2
      have f3 := hbB'.frozen 3
      have f4 := hbB'.frozen 4
      have HP := Lib.hid (MadeE.put (w := w) (p := w.heap.size + 1) (v0 := .int .i64 k') (v1 := .string n') (v2 := .int .i64 m') (v3 := .int .i64 u') (v4 := .slice A2 l2 x2) hR2 (by omega) (by omega) (hxW.tr hxc))
      clear hR2 hp
      go_wp2
      (try simp only [Exit.inBlock, Exit.then])
      refine bodyPost_ret (by simp [results, Try.results60, go_sem, *]; try rfl) rfl ?_
      exact HP.out
    · have hl1 : ((kids.length : Int) == 1) = false := beq_eq_false_iff_ne.2 (by omega)
      have HFA := Lib.hid (fun h => HD.out.trans (fin_any (k := k) (l := CL.smpL kids) (by rw [hdl]; exact h1l) h))
      have HFL := Lib.hid (fun h h' => HD.out.trans (fin_all (k := k) (l := CL.smpL kids) (by rw [hdl]; exact h1l) h h'))
      have HFN := Lib.hid (fun h h' => HD.out.trans (fin_no (k := k) (l := CL.smpL kids) (by rw [hdl]; exact h1l) h h'))
      obtain ⟨one, hone⟩ : ∃ one, (k == 1) = one := ⟨_, rfl⟩
      obtain ⟨all, hall⟩ : ∃ all, (k == (kids.length : Int)) = all := ⟨_, rfl⟩
      have HNA := Lib.hid (show ¬ (one = true ∧ all = true) by
        rintro ⟨rfl, rfl⟩
        have a := beq_iff_eq.1 hone
        have b := beq_iff_eq.1 hall
        omega)
      have HONE := Lib.hid (show one = true ↔ k = 1 by rw [← hone]; simp)
      have HALL := Lib.hid (show all = true ↔ k = kids.length by rw [← hall]; simp)
      have HLEN := Lib.hid (fun j => (show (CL.opn (qOf one all) ((CL.smpL kids).take j)).length ≤ 100 by
        have a := CL.len_sizeL (CL.opn (qOf one all) ((CL.smpL kids).take j))
        have b := CL.opn_size (qOf one all) ((CL.smpL kids).take j)
        have c : CL.sizeL ((CL.smpL kids).take j) ≤ CL.sizeL (CL.smpL kids) := by
          conv => rhs; rw [← List.take_append_drop j (CL.smpL kids)]
          rw [CL.sizeL_app]; omega
        have d := HSL.out
        omega))
      have HST := Lib.hid (fun j (hj : j < kids.length) => opn_step one all hj (hk _ (List.getElem_mem hj)))
      clear h1l hk
      go_enter Try.func60, Try.ntmps60
      obtain ⟨a0, a1, a2, a3, a4⟩ := hbA.c5
      go_wp2_with fail
      generalize ((w.alloc (.cells #[.int .i64 k, .string ⟨#[]⟩, .int .i64 0, .int .i64 0, .slice A kids.length c] 28)).alloc (.cells #[.int .i64 0, .string ⟨#[]⟩, .int .i64 0, .int .i64 0, .slice none 0 0] 28)) = W0 at *
      go_quiet (fail)
      go_wp2
      have hbX := Blk.new (W0.drewN nq) 28 #[.int .i64 k, .string ⟨#[]⟩, .int .i64 0, .int .i64 0, .slice none 0 0]
      have hxX : Ext W0 ((W0.drewN nq).alloc (.cells #[.int .i64 k, .string ⟨#[]⟩, .int .i64 0, .int .i64 0, .slice none 0 0] 28)) := (Ext.drewN Ext.rfl' nq).tr (Ext.new _ _)
      have hzX : ((W0.drewN nq).alloc (.cells #[.int .i64 k, .string ⟨#[]⟩, .int .i64 0, .int .i64 0, .slice none 0 0] 28)).heap.size = W0.heap.size + 1 := by simp
      rw [show (W0.drewN nq).heap.size = w.heap.size + 2 from hzW] at hbX
      have hxW1 := hxW.tr hxX
      have hbA1 := hbA.ext hxX
      have hbB1 := hbB.ext hxX
      clear hxX hbA hbB a0 a1 a2 a3 a4
      generalize ((W0.drewN nq).alloc (.cells #[.int .i64 k, .string ⟨#[]⟩, .int .i64 0, .int .i64 0, .slice none 0 0] 28)) = W at *
      generalize hR : w.heap.size + 2 = rb at *
      go_loopw [6] (fun i wr => ∃ (j : Nat) (xs : List CL.Ex) (vs : List (List Value)) (A' : Option Addr) (c' : Nat), j ≤ kids.length ∧ i = .int .i64 j ∧ Hid (xs = CL.opn (qOf one all) ((CL.smpL kids).take j)) ∧ xs.length ≤ 100 ∧ Below rb W wr ∧ Blk wr rb 28 #[.int .i64 k, .string ⟨#[]⟩, .int .i64 0, .int .i64 0, .slice A' xs.length c'] ∧
        Hid (wr.ownsRow (rb + 1) 28 5 (.slice A' xs.length c') xs.length vs.flatten) ∧ Hid (KidsI wr (rb + 1) (.slice A' xs.length c') xs vs)) (fun i _ => kids.length - (intOf i).toNat)
      case atStart => exact ⟨0, [], [], none, 0, by omega, rfl, Lib.hid (by simp [CL.opn]), by simp, Below.refl _ _, hbX, Lib.hid ⟨rfl, .inl ⟨rfl, rfl⟩⟩, Lib.hid (by simpa using KidsI.nil _ _ _)⟩
      case round =>
        obtain ⟨j, xs, vs, A', c', hj, rfl, HX, hxl, hbw, hb, HO, HK⟩ := hrel
        have hbl := hb.lt
        have hszr := hbw.size
        have a4 : wr.cell? ⟨w.heap.size, 4, none⟩ = some (.slice A kids.length c) := (hbA1.below hbw (by omega)).cell 4
        have hxr : Ext w wr := hxW1.trans (hbw.mono (by omega))
        by_cases hlt : j < kids.length
        · obtain ⟨b, o, k1, s1, m1, u1, A1, l1, x1, rfl, hbB1', hRk, g0, g1, g2, g3, g4⟩ := (hK.below (hxr.mono hB)).get hlt
          have hm := List.getElem_mem hlt
          obtain ⟨kx, ax, ks, he, hs1, hs2⟩ := HST.out j hlt
          rw [← HX.out] at hs1 hs2
          have HS1 := Lib.hid hs1
          have HS2 := Lib.hid hs2
          have HE := Lib.hid he
          have HNL := Lib.hid (HLEN.out (j + 1))
          generalize kids[j] = ek at *
          have hji : (j : Int) < (kids.length : Int) := by omega
          clear he hs1 hs2
          go_wp2_with fail
          refine (HIH.out ek hm (HSZ.out ek hm) wr B _ hRk (by omega)).mono ?_
          intro r wc hp
          obtain ⟨k', n', m', u', A2, l2, x2, rfl, hR2, hxc⟩ := hp.get
          rw [HE.out] at hR2
          obtain rfl : k' = kx := hR2.k
          obtain ⟨hKs, rfl, hkm⟩ := hR2.kids
          have hksl : ks.length ≤ 100 := by
            have a := (CL.smp_facts (show CL.Wf ek from HWF.out ek hm)).2.1
            rw [HE.out] at a
            have b := HSZ.out ek hm
            have c := CL.len_sizeL ks
            simp only [CL.size] at a
            omega
          have HKS := Lib.hid hKs
          have HR2 := Lib.hid hR2
          have hbc := hb.ext hxc
          have hszc := hxc.size
          obtain ⟨hbN, hxN⟩ := box1 wc #[.int .i64 k', .string n', .int .i64 m', .int .i64 u', .slice A2 ks.length x2] 28
          have HO2 := Lib.hid (own_ext (own_ext HO.out hxc) hxN)
          have HB2 := Lib.hid (hbc.ext hxN)
          have n1 : some rb ≠ (Value.slice A' xs.length c').ownBlock := fun e => by have := (HO.out.lt _ e.symm).1; omega
          have hzN : (wc.alloc (.cells #[.int .i64 k', .string n', .int .i64 m', .int .i64 u', .slice A2 ks.length x2] 28)).heap.size = wc.heap.size + 1 := by simp
          have e42 : (wc.alloc (.cells #[.int .i64 k', .string n', .int .i64 m', .int .i64 u', .slice A2 ks.length x2] 28)).cell? ⟨rb, 4, none⟩ = some (.slice A' xs.length c') := HB2.out.cell 4
          clear hR2 hKs hp hbN
          by_cases hpos : 0 < k'
          · have p1 : decide (k' > 0) = true := decide_eq_true hpos
            by_cases hit : ((one && k' == 1) || (all && k' == (ks.length : Int))) = true
            · have HSTEP := Lib.hid (HS2.out hpos hit)
              have hcs : (one = true ∧ (k' == 1) = true ∧ all = false) ∨ (one = false ∧ all = true ∧ (k' == (ks.length : Int)) = true) := by
                have := HNA.out
                cases one <;> cases all <;> simp_all
              rcases hcs with ⟨rfl, q2, rfl⟩ | ⟨rfl, rfl, q2⟩
              · clear hit hpos HS1 HS2 HST
                obtain ⟨ws, hwl, hwf, hws, hw1, hwr⟩ := HKS.out.one
                go_wp2_with (at_builtin; refine wpList_append_row _ rfl (.tmp 73) (.tmp 75) _ rfl (rb + 1) 28 5 64 _ Try.underlying26 ex_info rfl (by omega) _ _ _ rfl HO2.out _ _ _ ws.flatten rfl hwf (hws.ext (Ext.new _ _)) hw1 (by simp only [maxLen]; omega) (by omega) (by simp; omega) ?_; intro v3 w3 hown3 hb3 hg3 hrow3; obtain ⟨A3, c3, rfl, hc3, _⟩ := own_form hown3; have hb4 := hg3.blk HB2.out n1; have e43 : w3.cell? ⟨rb, 4, none⟩ = some (.slice A' xs.length c') := hb4.cell 4; have f43 := hb4.frozen 4)
                have hxa := Ext.new wc (.cells #[.int .i64 k', .string n', .int .i64 m', .int .i64 u', .slice A2 ks.length x2] 28)
                have hza := hxa.size
                have hz3 := hg3.size
                have hb5 := hb4.set 4 (.slice A3 (xs.length + ks.length) c3)
                have hlo : ∀ x, (Value.slice A' xs.length c').ownBlock = some x → rb + 1 ≤ x ∧ x < wr.heap.size := fun x e => HO.out.lt x e
                have ho5 : (w3.setCell ⟨rb, 4, none⟩ (.slice A3 (xs.length + ks.length) c3)).ownsRow (rb + 1) 28 5 (.slice A3 (xs.length + ks.length) c3) (xs.length + ks.length) (vs ++ ws).flatten := by
                  rw [List.flatten_append]
                  exact own_only hown3 (Only.rf.set 4 _) (fun e => by have := (hown3.lt _ e).1; omega)
                have hK3 : KidsI w3 (rb + 1) (.slice A3 (xs.length + ks.length) c3) xs vs := ((HK.out.ext hxc).ext hxa).grown hg3 (fun x e => .inr (.inl e)) (hrow3.imp id (fun e x h => by rw [e] at h; injection h with h; omega))
                have hR3 : ∀ i (h1 : i < ks.length) (h2 : i < ws.length), RdI w3 wr.heap.size wc.heap.size ks[i] ws[i] := fun i a b => ((hwr i a b).ext hxa (Nat.le_refl _)).same (Same.grown hg3 (fun x e => .inl (by have := hlo x e; omega)) (by omega))
                have hK4 := hK3.snocs hwl hR3 (by omega) (by omega) (fun x e => by
                  rcases hrow3 with e' | e'
                  · exact .inl (by have := hlo x (e'.symm.trans e); omega)
                  · rw [e'] at e; injection e with e; omega)
                have HK5 := Lib.hid (hK4.grown (w' := w3.setCell ⟨rb, 4, none⟩ (.slice A3 (xs.length + ks.length) c3)) (r := some rb) (Only.rf.set 4 _) (fun x e => .inl (by injection e; omega)) (.inl rfl))
                have hbw5 : Below rb W (w3.setCell ⟨rb, 4, none⟩ (.slice A3 (xs.length + ks.length) c3)) := below_only (((hbw.trans (hxc.mono (by omega))).trans (hxa.mono (by omega))).trans (hb3.mono (by omega))) (Only.rf.set 4 _) (Nat.le_refl _) (by omega)
                have HO5 := Lib.hid ho5
                have HBW5 := Lib.hid hbw5
                have HB5 := Lib.hid hb5
                have HX5 := HSTEP
                clear ho5 hown3 hb4 e43 f43 hK3 hR3 hK4 hb5 hbw5
                go_wp2
                have hxl5 : (xs ++ ks).length ≤ 100 := by rw [← HX5.out]; exact HLEN.out (j + 1)
                exact ⟨⟨j + 1, xs ++ ks, vs ++ ws, A3, c3, by omega, by go_num, Lib.hid HX5.out.symm, hxl5, HBW5.out, (by simpa using HB5.out), by simpa using HO5, by simpa using HK5⟩, by simp [intOf]; omega⟩
              · clear hit hpos HS1 HS2 HST
                obtain ⟨ws, hwl, hwf, hws, hw1, hwr⟩ := HKS.out.one
                go_wp2_with (at_builtin; refine wpList_append_row _ rfl (.tmp 73) (.tmp 75) _ rfl (rb + 1) 28 5 64 _ Try.underlying26 ex_info rfl (by omega) _ _ _ rfl HO2.out _ _ _ ws.flatten rfl hwf (hws.ext (Ext.new _ _)) hw1 (by simp only [maxLen]; omega) (by omega) (by simp; omega) ?_; intro v3 w3 hown3 hb3 hg3 hrow3; obtain ⟨A3, c3, rfl, hc3, _⟩ := own_form hown3; have hb4 := hg3.blk HB2.out n1; have e43 : w3.cell? ⟨rb, 4, none⟩ = some (.slice A' xs.length c') := hb4.cell 4; have f43 := hb4.frozen 4)
                have hxa := Ext.new wc (.cells #[.int .i64 k', .string n', .int .i64 m', .int .i64 u', .slice A2 ks.length x2] 28)
                have hza := hxa.size
                have hz3 := hg3.size
                have hb5 := hb4.set 4 (.slice A3 (xs.length + ks.length) c3)
                have hlo : ∀ x, (Value.slice A' xs.length c').ownBlock = some x → rb + 1 ≤ x ∧ x < wr.heap.size := fun x e => HO.out.lt x e
                have ho5 : (w3.setCell ⟨rb, 4, none⟩ (.slice A3 (xs.length + ks.length) c3)).ownsRow (rb + 1) 28 5 (.slice A3 (xs.length + ks.length) c3) (xs.length + ks.length) (vs ++ ws).flatten := by
                  rw [List.flatten_append]
                  exact own_only hown3 (Only.rf.set 4 _) (fun e => by have := (hown3.lt _ e).1; omega)
                have hK3 : KidsI w3 (rb + 1) (.slice A3 (xs.length + ks.length) c3) xs vs := ((HK.out.ext hxc).ext hxa).grown hg3 (fun x e => .inr (.inl e)) (hrow3.imp id (fun e x h => by rw [e] at h; injection h with h; omega))
                have hR3 : ∀ i (h1 : i < ks.length) (h2 : i < ws.length), RdI w3 wr.heap.size wc.heap.size ks[i] ws[i] := fun i a b => ((hwr i a b).ext hxa (Nat.le_refl _)).same (Same.grown hg3 (fun x e => .inl (by have := hlo x e; omega)) (by omega))
                have hK4 := hK3.snocs hwl hR3 (by omega) (by omega) (fun x e => by
                  rcases hrow3 with e' | e'
                  · exact .inl (by have := hlo x (e'.symm.trans e); omega)
                  · rw [e'] at e; injection e with e; omega)
                have HK5 := Lib.hid (hK4.grown (w' := w3.setCell ⟨rb, 4, none⟩ (.slice A3 (xs.length + ks.length) c3)) (r := some rb) (Only.rf.set 4 _) (fun x e => .inl (by injection e; omega)) (.inl rfl))
                have hbw5 : Below rb W (w3.setCell ⟨rb, 4, none⟩ (.slice A3 (xs.length + ks.length) c3)) := below_only (((hbw.trans (hxc.mono (by omega))).trans (hxa.mono (by omega))).trans (hb3.mono (by omega))) (Only.rf.set 4 _) (Nat.le_refl _) (by omega)
                have HO5 := Lib.hid ho5
                have HBW5 := Lib.hid hbw5
                have HB5 := Lib.hid hb5
                have HX5 := HSTEP
                clear ho5 hown3 hb4 e43 f43 hK3 hR3 hK4 hb5 hbw5
                go_wp2
                have hxl5 : (xs ++ ks).length ≤ 100 := by rw [← HX5.out]; exact HLEN.out (j + 1)
                exact ⟨⟨j + 1, xs ++ ks, vs ++ ws, A3, c3, by omega, by go_num, Lib.hid HX5.out.symm, hxl5, HBW5.out, (by simpa using HB5.out), by simpa using HO5, by simpa using HK5⟩, by simp [intOf]; omega⟩
            · simp only [Bool.not_eq_true] at hit
              have HSTEP := Lib.hid (HS1.out (.inr hit))
              have hcs : (one = true ∧ (k' == 1) = false ∧ all = false) ∨ (one = false ∧ all = true ∧ (k' == (ks.length : Int)) = false) ∨ (one = false ∧ all = false) := by
                have := HNA.out
                cases one <;> cases all <;> simp_all
              rcases hcs with ⟨rfl, q2, rfl⟩ | ⟨rfl, rfl, q2⟩ | ⟨rfl, rfl⟩
              · clear hit hpos HS1 HS2 HST
                have hsit : Sits ((wc.alloc (.cells #[.int .i64 k', .string n', .int .i64 m', .int .i64 u', .slice A2 ks.length x2] 28)).alloc (.cells #[.int .i64 k', .string n', .int .i64 m', .int .i64 u', .slice A2 ks.length x2] 28)) (some ⟨wc.heap.size + 1, 0, none⟩) [.int .i64 k', .string n', .int .i64 m', .int .i64 u', .slice A2 ks.length x2] := by rw [← hzN]; exact Sits.new _ _ _
                go_wp2_with (at_builtin; refine wpList_append_row _ rfl (.tmp 79) (.tmp 81) _ rfl (rb + 1) 28 5 64 _ Try.underlying26 ex_info rfl (by omega) _ _ _ rfl (HO2.out.alloc _) _ _ _ [.int .i64 k', .string n', .int .i64 m', .int .i64 u', .slice A2 ks.length x2] rfl rfl hsit (by simp [Value.oneCell']) (by simp only [maxLen]; omega) (by omega) (by simp; omega) ?_; intro v3 w3 hown3 hb3 hg3 hrow3; obtain ⟨A3, c3, rfl, hc3, _⟩ := own_form hown3; have hb4 := hg3.blk (HB2.out.alloc _) n1; have e43 : w3.cell? ⟨rb, 4, none⟩ = some (.slice A' xs.length c') := hb4.cell 4; have f43 := hb4.frozen 4)
                have hxa := Ext.new wc (.cells #[.int .i64 k', .string n', .int .i64 m', .int .i64 u', .slice A2 ks.length x2] 28)
                have hxb := Ext.new (wc.alloc (.cells #[.int .i64 k', .string n', .int .i64 m', .int .i64 u', .slice A2 ks.length x2] 28)) (.cells #[.int .i64 k', .string n', .int .i64 m', .int .i64 u', .slice A2 ks.length x2] 28)
                have hxab := hxa.tr hxb
                have hza := hxab.size
                have hz3 := hg3.size
                have hb5 := hb4.set 4 (.slice A3 (xs.length + 1) c3)
                have hlo : ∀ x, (Value.slice A' xs.length c').ownBlock = some x → rb + 1 ≤ x ∧ x < wr.heap.size := fun x e => HO.out.lt x e
                have ho5 : (w3.setCell ⟨rb, 4, none⟩ (.slice A3 (xs.length + 1) c3)).ownsRow (rb + 1) 28 5 (.slice A3 (xs.length + 1) c3) (xs.length + 1) (vs ++ [([.int .i64 k', .string n', .int .i64 m', .int .i64 u', .slice A2 ks.length x2] : List Value)]).flatten := by
                  rw [List.flatten_append]
                  exact own_only hown3 (Only.rf.set 4 _) (fun e => by have := (hown3.lt _ e).1; omega)
                have hK3 : KidsI w3 (rb + 1) (.slice A3 (xs.length + 1) c3) xs vs := ((HK.out.ext hxc).ext hxab).grown hg3 (fun x e => .inr (.inl e)) (hrow3.imp id (fun e x h => by rw [e] at h; injection h with h; omega))
                have hR3 : RdI w3 wr.heap.size wc.heap.size (.mk k' ax ks) [.int .i64 k', .string n', .int .i64 m', .int .i64 u', .slice A2 ks.length x2] := (HR2.out.ext hxab (Nat.le_refl _)).same (Same.grown hg3 (fun x e => .inl (by have := hlo x e; omega)) (by omega))
                have hK4 := hK3.snoc hR3 (by omega) (by omega) (fun x e => by
                  rcases hrow3 with e' | e'
                  · exact .inl (by have := hlo x (e'.symm.trans e); omega)
                  · rw [e'] at e; injection e with e; omega)
                have HK5 := Lib.hid (hK4.grown (w' := w3.setCell ⟨rb, 4, none⟩ (.slice A3 (xs.length + 1) c3)) (r := some rb) (Only.rf.set 4 _) (fun x e => .inl (by injection e; omega)) (.inl rfl))
                have hbw5 : Below rb W (w3.setCell ⟨rb, 4, none⟩ (.slice A3 (xs.length + 1) c3)) := below_only (((hbw.trans (hxc.mono (by omega))).trans (hxab.mono (by omega))).trans (hb3.mono (by omega))) (Only.rf.set 4 _) (Nat.le_refl _) (by omega)
                have HO5 := Lib.hid ho5
                have HBW5 := Lib.hid hbw5
                have HB5 := Lib.hid hb5
                have HX5 := HSTEP
                clear ho5 hown3 hb4 e43 f43 hK3 hR3 hK4 hb5 hbw5
                go_wp2
                have hxl5 : (xs ++ [CL.Ex.mk k' ax ks]).length ≤ 100 := by rw [← HX5.out]; exact HLEN.out (j + 1)
                exact ⟨⟨j + 1, xs ++ [CL.Ex.mk k' ax ks], vs ++ [([.int .i64 k', .string n', .int .i64 m', .int .i64 u', .slice A2 ks.length x2] : List Value)], A3, c3, by omega, by go_num, Lib.hid HX5.out.symm, hxl5, HBW5.out, (by simpa using HB5.out), by simpa using HO5, by simpa using HK5⟩, by simp [intOf]; omega⟩
              · clear hit hpos HS1 HS2 HST
                have hsit : Sits ((wc.alloc (.cells #[.int .i64 k', .string n', .int .i64 m', .int .i64 u', .slice A2 ks.length x2] 28)).alloc (.cells #[.int .i64 k', .string n', .int .i64 m', .int .i64 u', .slice A2 ks.length x2] 28)) (some ⟨wc.heap.size + 1, 0, none⟩) [.int .i64 k', .string n', .int .i64 m', .int .i64 u', .slice A2 ks.length x2] := by rw [← hzN]; exact Sits.new _ _ _
                go_wp2_with (at_builtin; refine wpList_append_row _ rfl (.tmp 79) (.tmp 81) _ rfl (rb + 1) 28 5 64 _ Try.underlying26 ex_info rfl (by omega) _ _ _ rfl (HO2.out.alloc _) _ _ _ [.int .i64 k', .string n', .int .i64 m', .int .i64 u', .slice A2 ks.length x2] rfl rfl hsit (by simp [Value.oneCell']) (by simp only [maxLen]; omega) (by omega) (by simp; omega) ?_; intro v3 w3 hown3 hb3 hg3 hrow3; obtain ⟨A3, c3, rfl, hc3, _⟩ := own_form hown3; have hb4 := hg3.blk (HB2.out.alloc _) n1; have e43 : w3.cell? ⟨rb, 4, none⟩ = some (.slice A' xs.length c') := hb4.cell 4; have f43 := hb4.frozen 4)
                have hxa := Ext.new wc (.cells #[.int .i64 k', .string n', .int .i64 m', .int .i64 u', .slice A2 ks.length x2] 28)
                have hxb := Ext.new (wc.alloc (.cells #[.int .i64 k', .string n', .int .i64 m', .int .i64 u', .slice A2 ks.length x2] 28)) (.cells #[.int .i64 k', .string n', .int .i64 m', .int .i64 u', .slice A2 ks.length x2] 28)
                have hxab := hxa.tr hxb
                have hza := hxab.size
                have hz3 := hg3.size
                have hb5 := hb4.set 4 (.slice A3 (xs.length + 1) c3)
                have hlo : ∀ x, (Value.slice A' xs.length c').ownBlock = some x → rb + 1 ≤ x ∧ x < wr.heap.size := fun x e => HO.out.lt x e
                have ho5 : (w3.setCell ⟨rb, 4, none⟩ (.slice A3 (xs.length + 1) c3)).ownsRow (rb + 1) 28 5 (.slice A3 (xs.length + 1) c3) (xs.length + 1) (vs ++ [([.int .i64 k', .string n', .int .i64 m', .int .i64 u', .slice A2 ks.length x2] : List Value)]).flatten := by
                  rw [List.flatten_append]
                  exact own_only hown3 (Only.rf.set 4 _) (fun e => by have := (hown3.lt _ e).1; omega)
                have hK3 : KidsI w3 (rb + 1) (.slice A3 (xs.length + 1) c3) xs vs := ((HK.out.ext hxc).ext hxab).grown hg3 (fun x e => .inr (.inl e)) (hrow3.imp id (fun e x h => by rw [e] at h; injection h with h; omega))
                have hR3 : RdI w3 wr.heap.size wc.heap.size (.mk k' ax ks) [.int .i64 k', .string n', .int .i64 m', .int .i64 u', .slice A2 ks.length x2] := (HR2.out.ext hxab (Nat.le_refl _)).same (Same.grown hg3 (fun x e => .inl (by have := hlo x e; omega)) (by omega))
                have hK4 := hK3.snoc hR3 (by omega) (by omega) (fun x e => by
                  rcases hrow3 with e' | e'
                  · exact .inl (by have := hlo x (e'.symm.trans e); omega)
                  · rw [e'] at e; injection e with e; omega)
                have HK5 := Lib.hid (hK4.grown (w' := w3.setCell ⟨rb, 4, none⟩ (.slice A3 (xs.length + 1) c3)) (r := some rb) (Only.rf.set 4 _) (fun x e => .inl (by injection e; omega)) (.inl rfl))
                have hbw5 : Below rb W (w3.setCell ⟨rb, 4, none⟩ (.slice A3 (xs.length + 1) c3)) := below_only (((hbw.trans (hxc.mono (by omega))).trans (hxab.mono (by omega))).trans (hb3.mono (by omega))) (Only.rf.set 4 _) (Nat.le_refl _) (by omega)
                have HO5 := Lib.hid ho5
                have HBW5 := Lib.hid hbw5
                have HB5 := Lib.hid hb5
                have HX5 := HSTEP
                clear ho5 hown3 hb4 e43 f43 hK3 hR3 hK4 hb5 hbw5
                go_wp2
                have hxl5 : (xs ++ [CL.Ex.mk k' ax ks]).length ≤ 100 := by rw [← HX5.out]; exact HLEN.out (j + 1)
                exact ⟨⟨j + 1, xs ++ [CL.Ex.mk k' ax ks], vs ++ [([.int .i64 k', .string n', .int .i64 m', .int .i64 u', .slice A2 ks.length x2] : List Value)], A3, c3, by omega, by go_num, Lib.hid HX5.out.symm, hxl5, HBW5.out, (by simpa using HB5.out), by simpa using HO5, by simpa using HK5⟩, by simp [intOf]; omega⟩
              · clear hit hpos HS1 HS2 HST
                have hsit : Sits ((wc.alloc (.cells #[.int .i64 k', .string n', .int .i64 m', .int .i64 u', .slice A2 ks.length x2] 28)).alloc (.cells #[.int .i64 k', .string n', .int .i64 m', .int .i64 u', .slice A2 ks.length x2] 28)) (some ⟨wc.heap.size + 1, 0, none⟩) [.int .i64 k', .string n', .int .i64 m', .int .i64 u', .slice A2 ks.length x2] := by rw [← hzN]; exact Sits.new _ _ _
                go_wp2_with (at_builtin; refine wpList_append_row _ rfl (.tmp 79) (.tmp 81) _ rfl (rb + 1) 28 5 64 _ Try.underlying26 ex_info rfl (by omega) _ _ _ rfl (HO2.out.alloc _) _ _ _ [.int .i64 k', .string n', .int .i64 m', .int .i64 u', .slice A2 ks.length x2] rfl rfl hsit (by simp [Value.oneCell']) (by simp only [maxLen]; omega) (by omega) (by simp; omega) ?_; intro v3 w3 hown3 hb3 hg3 hrow3; obtain ⟨A3, c3, rfl, hc3, _⟩ := own_form hown3; have hb4 := hg3.blk (HB2.out.alloc _) n1; have e43 : w3.cell? ⟨rb, 4, none⟩ = some (.slice A' xs.length c') := hb4.cell 4; have f43 := hb4.frozen 4)
                have hxa := Ext.new wc (.cells #[.int .i64 k', .string n', .int .i64 m', .int .i64 u', .slice A2 ks.length x2] 28)
                have hxb := Ext.new (wc.alloc (.cells #[.int .i64 k', .string n', .int .i64 m', .int .i64 u', .slice A2 ks.length x2] 28)) (.cells #[.int .i64 k', .string n', .int .i64 m', .int .i64 u', .slice A2 ks.length x2] 28)
                have hxab := hxa.tr hxb
                have hza := hxab.size
                have hz3 := hg3.size
                have hb5 := hb4.set 4 (.slice A3 (xs.length + 1) c3)
                have hlo : ∀ x, (Value.slice A' xs.length c').ownBlock = some x → rb + 1 ≤ x ∧ x < wr.heap.size := fun x e => HO.out.lt x e
                have ho5 : (w3.setCell ⟨rb, 4, none⟩ (.slice A3 (xs.length + 1) c3)).ownsRow (rb + 1) 28 5 (.slice A3 (xs.length + 1) c3) (xs.length + 1) (vs ++ [([.int .i64 k', .string n', .int .i64 m', .int .i64 u', .slice A2 ks.length x2] : List Value)]).flatten := by
                  rw [List.flatten_append]
                  exact own_only hown3 (Only.rf.set 4 _) (fun e => by have := (hown3.lt _ e).1; omega)
                have hK3 : KidsI w3 (rb + 1) (.slice A3 (xs.length + 1) c3) xs vs := ((HK.out.ext hxc).ext hxab).grown hg3 (fun x e => .inr (.inl e)) (hrow3.imp id (fun e x h => by rw [e] at h; injection h with h; omega))
                have hR3 : RdI w3 wr.heap.size wc.heap.size (.mk k' ax ks) [.int .i64 k', .string n', .int .i64 m', .int .i64 u', .slice A2 ks.length x2] := (HR2.out.ext hxab (Nat.le_refl _)).same (Same.grown hg3 (fun x e => .inl (by have := hlo x e; omega)) (by omega))
                have hK4 := hK3.snoc hR3 (by omega) (by omega) (fun x e => by
                  rcases hrow3 with e' | e'
                  · exact .inl (by have := hlo x (e'.symm.trans e); omega)
                  · rw [e'] at e; injection e with e; omega)
                have HK5 := Lib.hid (hK4.grown (w' := w3.setCell ⟨rb, 4, none⟩ (.slice A3 (xs.length + 1) c3)) (r := some rb) (Only.rf.set 4 _) (fun x e => .inl (by injection e; omega)) (.inl rfl))
                have hbw5 : Below rb W (w3.setCell ⟨rb, 4, none⟩ (.slice A3 (xs.length + 1) c3)) := below_only (((hbw.trans (hxc.mono (by omega))).trans (hxab.mono (by omega))).trans (hb3.mono (by omega))) (Only.rf.set 4 _) (Nat.le_refl _) (by omega)
                have HO5 := Lib.hid ho5
                have HBW5 := Lib.hid hbw5
                have HB5 := Lib.hid hb5
                have HX5 := HSTEP
                clear ho5 hown3 hb4 e43 f43 hK3 hR3 hK4 hb5 hbw5
                go_wp2
                have hxl5 : (xs ++ [CL.Ex.mk k' ax ks]).length ≤ 100 := by rw [← HX5.out]; exact HLEN.out (j + 1)
                exact ⟨⟨j + 1, xs ++ [CL.Ex.mk k' ax ks], vs ++ [([.int .i64 k', .string n', .int .i64 m', .int .i64 u', .slice A2 ks.length x2] : List Value)], A3, c3, by omega, by go_num, Lib.hid HX5.out.symm, hxl5, HBW5.out, (by simpa using HB5.out), by simpa using HO5, by simpa using HK5⟩, by simp [intOf]; omega⟩
          · have p1 : decide (k' > 0) = false := decide_eq_false hpos
            have HSTEP := Lib.hid (HS1.out (.inl (by omega)))
            clear hpos
            have hsit : Sits ((wc.alloc (.cells #[.int .i64 k', .string n', .int .i64 m', .int .i64 u', .slice A2 ks.length x2] 28)).alloc (.cells #[.int .i64 k', .string n', .int .i64 m', .int .i64 u', .slice A2 ks.length x2] 28)) (some ⟨wc.heap.size + 1, 0, none⟩) [.int .i64 k', .string n', .int .i64 m', .int .i64 u', .slice A2 ks.length x2] := by rw [← hzN]; exact Sits.new _ _ _
            go_wp2_with (at_builtin; refine wpList_append_row _ rfl (.tmp 79) (.tmp 81) _ rfl (rb + 1) 28 5 64 _ Try.underlying26 ex_info rfl (by omega) _ _ _ rfl (HO2.out.alloc _) _ _ _ [.int .i64 k', .string n', .int .i64 m', .int .i64 u', .slice A2 ks.length x2] rfl rfl hsit (by simp [Value.oneCell']) (by simp only [maxLen]; omega) (by omega) (by simp; omega) ?_; intro v3 w3 hown3 hb3 hg3 hrow3; obtain ⟨A3, c3, rfl, hc3, _⟩ := own_form hown3; have hb4 := hg3.blk (HB2.out.alloc _) n1; have e43 : w3.cell? ⟨rb, 4, none⟩ = some (.slice A' xs.length c') := hb4.cell 4; have f43 := hb4.frozen 4)
            have hxa := Ext.new wc (.cells #[.int .i64 k', .string n', .int .i64 m', .int .i64 u', .slice A2 ks.length x2] 28)
            have hxb := Ext.new (wc.alloc (.cells #[.int .i64 k', .string n', .int .i64 m', .int .i64 u', .slice A2 ks.length x2] 28)) (.cells #[.int .i64 k', .string n', .int .i64 m', .int .i64 u', .slice A2 ks.length x2] 28)
            have hxab := hxa.tr hxb
            have hza := hxab.size
            have hz3 := hg3.size
            have hb5 := hb4.set 4 (.slice A3 (xs.length + 1) c3)
            have hlo : ∀ x, (Value.slice A' xs.length c').ownBlock = some x → rb + 1 ≤ x ∧ x < wr.heap.size := fun x e => HO.out.lt x e
            have ho5 : (w3.setCell ⟨rb, 4, none⟩ (.slice A3 (xs.length + 1) c3)).ownsRow (rb + 1) 28 5 (.slice A3 (xs.length + 1) c3) (xs.length + 1) (vs ++ [([.int .i64 k', .string n', .int .i64 m', .int .i64 u', .slice A2 ks.length x2] : List Value)]).flatten := by
              rw [List.flatten_append]
              exact own_only hown3 (Only.rf.set 4 _) (fun e => by have := (hown3.lt _ e).1; omega)
            have hK3 : KidsI w3 (rb + 1) (.slice A3 (xs.length + 1) c3) xs vs := ((HK.out.ext hxc).ext hxab).grown hg3 (fun x e => .inr (.inl e)) (hrow3.imp id (fun e x h => by rw [e] at h; injection h with h; omega))
            have hR3 : RdI w3 wr.heap.size wc.heap.size (.mk k' ax ks) [.int .i64 k', .string n', .int .i64 m', .int .i64 u', .slice A2 ks.length x2] := (HR2.out.ext hxab (Nat.le_refl _)).same (Same.grown hg3 (fun x e => .inl (by have := hlo x e; omega)) (by omega))
            have hK4 := hK3.snoc hR3 (by omega) (by omega) (fun x e => by
              rcases hrow3 with e' | e'
              · exact .inl (by have := hlo x (e'.symm.trans e); omega)
              · rw [e'] at e; injection e with e; omega)
            have HK5 := Lib.hid (hK4.grown (w' := w3.setCell ⟨rb, 4, none⟩ (.slice A3 (xs.length + 1) c3)) (r := some rb) (Only.rf.set 4 _) (fun x e => .inl (by injection e; omega)) (.inl rfl))
            have hbw5 : Below rb W (w3.setCell ⟨rb, 4, none⟩ (.slice A3 (xs.length + 1) c3)) := below_only (((hbw.trans (hxc.mono (by omega))).trans (hxab.mono (by omega))).trans (hb3.mono (by omega))) (Only.rf.set 4 _) (Nat.le_refl _) (by omega)
            have HO5 := Lib.hid ho5
            have HBW5 := Lib.hid hbw5
            have HB5 := Lib.hid hb5
            have HX5 := HSTEP
            clear ho5 hown3 hb4 e43 f43 hK3 hR3 hK4 hb5 hbw5
            go_wp2
            have hxl5 : (xs ++ [CL.Ex.mk k' ax ks]).length ≤ 100 := by rw [← HX5.out]; exact HLEN.out (j + 1)
            exact ⟨⟨j + 1, xs ++ [CL.Ex.mk k' ax ks], vs ++ [([.int .i64 k', .string n', .int .i64 m', .int .i64 u', .slice A2 ks.length x2] : List Value)], A3, c3, by omega, by go_num, Lib.hid HX5.out.symm, hxl5, HBW5.out, (by simpa using HB5.out), by simpa using HO5, by simpa using HK5⟩, by simp [intOf]; omega⟩
        · obtain rfl : j = kids.length := by omega
          obtain ⟨w1, rfl⟩ : ∃ w1 : World, w1 = wr := ⟨_, rfl⟩
          rw [show (CL.smpL kids).take kids.length = CL.smpL kids by rw [← hdl, List.take_length]] at HX
          obtain ⟨x0, x1, x2, x3, x4⟩ := hb.c5
          have hbR := hbB1.below hbw (by omega)
          have HXR := Lib.hid hxr
          obtain ⟨Aq, cq, ev, hcq, _⟩ := own_form HO.out
          injection ev with ev1 _ ev3
          subst ev1 ev3
          have HKX := Lib.hid (HK.out.kidsH HO.out)
          clear HIH HSZ HSL HWF hK hbA1 hbB1 HLEN HST hkl HK hbX
          have hcs : (one = true ∧ all = false) ∨ (one = false ∧ all = true) ∨ (one = false ∧ all = false) := by
            have := HNA.out
            cases one <;> cases all <;> simp_all
          rcases hcs with ⟨rfl, rfl⟩ | ⟨rfl, rfl⟩ | ⟨rfl, rfl⟩
          · have HF := Lib.hid (show CL.smp (.mk k ⟨[], ⟨0, 0⟩⟩ kids) = CL.wrapE k (CL.uniq xs) by
              rw [HFA.out (HONE.out.1 rfl), HX.out, opn_qAny]; rfl)
            clear HFA HFL HFN HX HNA HONE HALL hone hall
            go_wp2
            go_loopw [8, 9] (fun v i wl => ∃ (m : Nat) (ls : List CL.Ex) (ws : List (List Value)) (Al : Option Addr) (cl : Nat), m ≤ xs.length ∧ i = .int .i64 m ∧ v = .slice Al ls.length cl ∧ Hid (ls = CL.uniq (xs.take m)) ∧ ls.length ≤ 100 ∧ ls.length ≤ cl ∧ Ext w1 wl ∧
              Hid (wl.ownsRow w1.heap.size 28 5 (.slice Al ls.length cl) ls.length ws.flatten) ∧ Hid (KidsI wl (rb + 1) (.slice Al ls.length cl) ls ws)) (fun _ i _ => xs.length - (intOf i).toNat)
            case atStart => exact ⟨0, [], [], none, 0, by omega, rfl, rfl, Lib.hid rfl, by simp, by simp, Ext.rfl', Lib.hid ⟨rfl, .inl ⟨rfl, rfl⟩⟩, Lib.hid (by simpa using KidsI.nil _ _ _)⟩
            case round =>
              obtain ⟨m, ls, ws, Al, cl, hm, rfl, rfl, HU, hll, hlc, hxl2, HOL, HKI⟩ := hrel
              obtain ⟨wl, rfl⟩ : ∃ wl : World, wl = wr := ⟨_, rfl⟩
              have hzl := hxl2.size
              have HKL := Lib.hid (HKI.out.kidsH (own_le HOL.out (show rb + 1 ≤ w1.heap.size by omega)))
              obtain ⟨y0, y1, y2, y3, y4⟩ := (hb.ext hxl2).c5
              by_cases hlt2 : m < xs.length
              · obtain ⟨b2, o2, k2, s2, m2, u2, A2, l2, c2, rfl, hb2, hR2, d0, d1, d2, d3, d4⟩ := (HKX.out.same (Same.ext hxl2 (Nat.le_refl _))).get hlt2
                have HUT := Lib.hid (uniq_take hlt2)
                have hul := uniq_len (xs.take (m + 1))
                rw [List.length_take] at hul
                generalize xs[m] = x at *
                have hmi : (m : Int) < (xs.length : Int) := by omega
                have HRX := Lib.hid hR2
                clear hR2
                go_wp2
                go_loopw [10, 11] (fun v i wi => ∃ n : Nat, n ≤ ls.length ∧ i = .int .i64 n ∧ v = .bool (decide (x ∈ ls.take n)) ∧ Ext wl wi) (fun _ i _ => ls.length - (intOf i).toNat)
                case atStart => exact ⟨0, by omega, rfl, by simp, Ext.rfl'⟩
                case round =>
                  obtain ⟨n, hn, rfl, rfl, hxi⟩ := hrel
                  obtain ⟨wi, rfl⟩ : ∃ wi : World, wi = wr := ⟨_, rfl⟩
                  have hzi := hxi.size
                  by_cases hlt3 : n < ls.length
                  · have hni : (n : Int) < (ls.length : Int) := by omega
                    have HMS := Lib.hid (mem_step (x := x) hlt3)
                    cases hd : decide (x ∈ ls.take n)
                    · obtain ⟨b3, o3, k3, s3, m3, u3, A3, l3, c3, rfl, hb3, hR3, e0, e1, e2, e3, e4⟩ := (HKL.out.same (Same.ext hxi (Nat.le_refl _))).get hlt3
                      have HC := Lib.hid (fun y : ExtOf wi => SameExpr_d ls[n] x y.val wl.heap.size _ _ (hR3.rd.ext y.ext (by omega)) (((HRX.out.ext hxi (by omega)).ext y.ext (by omega)).rd.le (by omega)) (by have := y.ext.size; omega))
                      rw [hd, Bool.false_or] at HMS
                      generalize ls[n] = z at *
                      have p0 := ExtOf.cell (hxi.cell d0)
                      have p1 := ExtOf.cell (hxi.cell d1)
                      have p2 := ExtOf.cell (hxi.cell d2)
                      have p3 := ExtOf.cell (hxi.cell d3)
                      have p4 := ExtOf.cell (hxi.cell d4)
                      have q0 := ExtOf.cell e0
                      have q1 := ExtOf.cell e1
                      have q2 := ExtOf.cell e2
                      have q3 := ExtOf.cell e3
                      have q4 := ExtOf.cell e4
                      have r4 := ExtOf.cell (hxi.cell y4)
                      generalize hev : CL.eqE z x = ee at *
                      go_wp2_with fail
                      refine wp_region_ext_lit (by kernel_rfl) (by kernel_rfl) ?_
                      repeat (go_big_quiet_step ((go_at_call 19; exact xqX (HC.out _))))
                      refine wpQuiet_nil ?_
                      intro wq hw'
                      obtain ⟨⟨wq', hxq⟩, hw''⟩ := hw'
                      subst hw''
                      go_wp2
                      go_roundw
                      case rel => exact ⟨n + 1, by omega, by go_num, by rw [HMS.out], hxi.tr hxq⟩
                      case measure => simp [intOf]; omega
                    · rw [hd, Bool.true_or] at HMS
                      go_wp2_with fail
                      go_quiet (fail)
                      go_wp2
                      go_roundw
                      case rel => exact ⟨n + 1, by omega, by go_num, by rw [HMS.out], hxi.drewN _⟩
                      case measure => simp [intOf]; omega
                  · obtain rfl : n = ls.length := by omega
                    rw [List.take_length]
                    have y4' := hxi.cell y4
                    have d0' := hxi.cell d0
                    have d1' := hxi.cell d1
                    have d2' := hxi.cell d2
                    have d3' := hxi.cell d3
                    have d4' := hxi.cell d4
                    by_cases hin : x ∈ ls
                    · have hd : decide (x ∈ ls) = true := decide_eq_true hin
                      have HU2 := Lib.hid (show ls = CL.uniq (xs.take (m + 1)) by rw [HUT.out, ← HU.out]; unfold CL.addU; rw [if_pos hin])
                      rw [hd]
                      clear hin hd
                      go_wp2
                      exact ⟨⟨m + 1, ls, ws, Al, cl, by omega, by go_num, rfl, HU2, hll, hlc, hxl2.tr hxi, Lib.hid (own_ext HOL.out hxi), Lib.hid (HKI.out.ext hxi)⟩, by simp [intOf]; omega⟩
                    · have hd : decide (x ∈ ls) = false := decide_eq_false hin
                      have HU2 := Lib.hid (show ls ++ [x] = CL.uniq (xs.take (m + 1)) by rw [HUT.out, ← HU.out]; unfold CL.addU; rw [if_neg hin])
                      rw [hd]
                      clear hin hd
                      have hxa := Ext.new wi (.cells #[.int .i64 k2, .string s2, .int .i64 m2, .int .i64 u2, .slice A2 l2 c2] 28)
                      have hza := hxa.size
                      have HOA := Lib.hid (own_ext (own_ext HOL.out hxi) hxa)
                      have hl1' : ls.length + 1 ≤ 100 := by
                        have := congrArg List.length HU2.out
                        simp only [List.length_append, List.length_cons, List.length_nil] at this
                        omega
                      go_wp2_with (at_builtin; refine wpList_append_row _ rfl (.tmp 116) (.tmp 122) _ rfl w1.heap.size 28 5 64 _ Try.underlying26 ex_info rfl (by omega) _ _ _ rfl HOA.out _ _ _ [.int .i64 k2, .string s2, .int .i64 m2, .int .i64 u2, .slice A2 l2 c2] rfl rfl (Sits.new _ _ _) (by simp [Value.oneCell']) (by simp only [maxLen]; omega) (by omega) (by simp; omega) ?_; intro v4 w4 hown4 hb4 hg4 hrow4; obtain ⟨A4, c4, rfl, hc4, _⟩ := own_form hown4)
                      have hz4 := hg4.size
                      have hlo : ∀ x, (Value.slice Al ls.length cl).ownBlock = some x → w1.heap.size ≤ x := fun x e => (HOL.out.lt x e).1
                      have hK4 : KidsI w4 (rb + 1) (.slice A4 (ls.length + 1) c4) ls ws := ((HKI.out.ext hxi).ext hxa).grown hg4 (fun x e => .inr (.inl e)) (hrow4.imp id (fun e x h => by rw [e] at h; injection h with h; omega))
                      have hR4 : RdI w4 (rb + 1) w1.heap.size x [.int .i64 k2, .string s2, .int .i64 m2, .int .i64 u2, .slice A2 l2 c2] := (((HRX.out.ext hxi (by omega)).ext hxa (by omega))).same (Same.grown hg4 (fun x e => .inr (by have := hlo x e; omega)) (by omega))
                      have hK5 := Lib.hid (hK4.snoc hR4 (Nat.le_refl _) (by omega) (fun x e => .inr ((hown4.lt x e).1)))
                      exact ⟨⟨m + 1, ls ++ [x], ws ++ [([.int .i64 k2, .string s2, .int .i64 m2, .int .i64 u2, .slice A2 l2 c2] : List Value)], A4, c4, by omega, by go_num, by simp, HU2, by simpa using hl1', by simpa using hc4, hxl2.trans ((hxi.tr hxa).mono (by omega) |>.trans (hb4.mono (by omega))), Lib.hid (by simpa using hown4), by simpa using hK5⟩, by simp [intOf]; omega⟩
              · obtain rfl : m = xs.length := by omega
                rw [List.take_length] at HU
                rw [← HU.out] at HF
                have hbl2 := hb.ext hxl2
                have hbR2 := hbR.ext hxl2
                have hO4 : Only rb wl (wl.setCell ⟨rb, 4, none⟩ (.slice Al ls.length cl)) := Only.rf.set 4 _
                have hX4 : Ext w (wl.setCell ⟨rb, 4, none⟩ (.slice Al ls.length cl)) := below_only ((HXR.out).tr hxl2) hO4 (by omega) (by omega)
                have hS4 : Same wl (wl.setCell ⟨rb, 4, none⟩ (.slice Al ls.length cl)) (rb + 1) wl.heap.size := Same.grown hO4 (fun x e => by injection e; omega) (Nat.le_refl _)
                have hZ4 : wl.heap.size ≤ (wl.setCell ⟨rb, 4, none⟩ (.slice Al ls.length cl)).heap.size := hO4.size
                obtain ⟨z0, z1, z2, z3, z4⟩ := hbl2.c5
                have z4f := hbl2.frozen 4
                have z0f := hbl2.frozen 0
                obtain ⟨q0, q1, q2, q3, q4⟩ := hbR2.c5
                have f0 := hbR2.frozen 0
                have f1 := hbR2.frozen 1
                have f2 := hbR2.frozen 2
                have f3 := hbR2.frozen 3
                have f4 := hbR2.frozen 4
                have hne : w.heap.size + 1 ≠ rb := by omega
                clear hbl2 hbR2 hO4 HOL HU HKX x0 x1 x2 x3 x4
                by_cases hone1 : ls.length = 1
                · obtain ⟨b, o, k1, s1, m1, u1, A1, l1, xx, rfl, hb1, hR1, c0, c1, c2, c3, c4⟩ := HKL.out.get (j := 0) (by omega)
                  simp only [Nat.zero_mul, Nat.add_zero] at c0 c1 c2 c3 c4
                  have hl2 : ((ls.length : Int) == 1) = true := by simp [hone1]
                  have h0l : 0 < ls.length := by omega
                  have hEq := HF.out.trans (wrap_one hone1)
                  rw [← hEq] at hR1
                  have HP := Lib.hid (MadeE.put (w := w) (p := w.heap.size + 1) (v0 := .int .i64 k1) (v1 := .string s1) (v2 := .int .i64 m1) (v3 := .int .i64 u1) (v4 := .slice A1 l1 xx) ((hR1.same hS4).wide (Nat.le_refl _) hZ4) (by omega) (by omega) hX4)
                  have hbrb : b ≠ rb := by have := HKL.out.low h0l rfl; omega
                  clear hone1 hEq hR1 hX4 hS4 hZ4 HKL
                  go_wp2
                  (try simp only [Exit.inBlock, Exit.then])
                  refine bodyPost_ret (by simp [results, Try.results60, go_sem, *]; try rfl) rfl ?_
                  exact HP.out
                · have hl2 : ((ls.length : Int) == 1) = false := beq_eq_false_iff_ne.2 (by omega)
                  have hEq := HF.out.trans (CL.wrapE_ne hone1)
                  have hR3 := HKL.out.node (K := k) (by unfold maxLen; omega) hlc
                  rw [← hEq] at hR3
                  have HP := Lib.hid (MadeE.put (w := w) (p := w.heap.size + 1) (v0 := .int .i64 k) (v1 := .string ⟨#[]⟩) (v2 := .int .i64 0) (v3 := .int .i64 0) (v4 := .slice Al ls.length cl) ((hR3.same hS4).wide (Nat.le_refl _) hZ4) (by omega) (by omega) hX4)
                  clear hone1 hEq hR3 hX4 hS4 hZ4 HKL
                  go_wp2
                  (try simp only [Exit.inBlock, Exit.then])
                  refine bodyPost_ret (by simp [results, Try.results60, go_sem, *]; try rfl) rfl ?_
                  exact HP.out
          · have HF := Lib.hid (show CL.smp (.mk k ⟨[], ⟨0, 0⟩⟩ kids) = CL.wrapE (CL.uniq xs).length (CL.uniq xs) by
              have h1 : k ≠ 1 := fun e => by have := HONE.out.2 e; cases this
              have h2 := HALL.out.1 rfl
              rw [HFL.out h1 (by rw [hdl]; exact h2), HX.out, opn_qAll]; rfl)
            clear HFA HFL HFN HX HNA HONE HALL hone hall
            go_wp2
            go_loopw [8, 9] (fun v i wl => ∃ (m : Nat) (ls : List CL.Ex) (ws : List (List Value)) (Al : Option Addr) (cl : Nat), m ≤ xs.length ∧ i = .int .i64 m ∧ v = .slice Al ls.length cl ∧ Hid (ls = CL.uniq (xs.take m)) ∧ ls.length ≤ 100 ∧ ls.length ≤ cl ∧ Ext w1 wl ∧
              Hid (wl.ownsRow w1.heap.size 28 5 (.slice Al ls.length cl) ls.length ws.flatten) ∧ Hid (KidsI wl (rb + 1) (.slice Al ls.length cl) ls ws)) (fun _ i _ => xs.length - (intOf i).toNat)
            case atStart => exact ⟨0, [], [], none, 0, by omega, rfl, rfl, Lib.hid rfl, by simp, by simp, Ext.rfl', Lib.hid ⟨rfl, .inl ⟨rfl, rfl⟩⟩, Lib.hid (by simpa using KidsI.nil _ _ _)⟩
            case round =>
              obtain ⟨m, ls, ws, Al, cl, hm, rfl, rfl, HU, hll, hlc, hxl2, HOL, HKI⟩ := hrel
              obtain ⟨wl, rfl⟩ : ∃ wl : World, wl = wr := ⟨_, rfl⟩
              have hzl := hxl2.size
              have HKL := Lib.hid (HKI.out.kidsH (own_le HOL.out (show rb + 1 ≤ w1.heap.size by omega)))
              obtain ⟨y0, y1, y2, y3, y4⟩ := (hb.ext hxl2).c5
              by_cases hlt2 : m < xs.length
              · obtain ⟨b2, o2, k2, s2, m2, u2, A2, l2, c2, rfl, hb2, hR2, d0, d1, d2, d3, d4⟩ := (HKX.out.same (Same.ext hxl2 (Nat.le_refl _))).get hlt2
                have HUT := Lib.hid (uniq_take hlt2)
                have hul := uniq_len (xs.take (m + 1))
                rw [List.length_take] at hul
                generalize xs[m] = x at *
                have hmi : (m : Int) < (xs.length : Int) := by omega
                have HRX := Lib.hid hR2
                clear hR2
                go_wp2
                go_loopw [10, 11] (fun v i wi => ∃ n : Nat, n ≤ ls.length ∧ i = .int .i64 n ∧ v = .bool (decide (x ∈ ls.take n)) ∧ Ext wl wi) (fun _ i _ => ls.length - (intOf i).toNat)
                case atStart => exact ⟨0, by omega, rfl, by simp, Ext.rfl'⟩
                case round =>
                  obtain ⟨n, hn, rfl, rfl, hxi⟩ := hrel
                  obtain ⟨wi, rfl⟩ : ∃ wi : World, wi = wr := ⟨_, rfl⟩
                  have hzi := hxi.size
                  by_cases hlt3 : n < ls.length
                  · have hni : (n : Int) < (ls.length : Int) := by omega
                    have HMS := Lib.hid (mem_step (x := x) hlt3)
                    cases hd : decide (x ∈ ls.take n)
                    · obtain ⟨b3, o3, k3, s3, m3, u3, A3, l3, c3, rfl, hb3, hR3, e0, e1, e2, e3, e4⟩ := (HKL.out.same (Same.ext hxi (Nat.le_refl _))).get hlt3
                      have HC := Lib.hid (fun y : ExtOf wi => SameExpr_d ls[n] x y.val wl.heap.size _ _ (hR3.rd.ext y.ext (by omega)) (((HRX.out.ext hxi (by omega)).ext y.ext (by omega)).rd.le (by omega)) (by have := y.ext.size; omega))
                      rw [hd, Bool.false_or] at HMS
                      generalize ls[n] = z at *
                      have p0 := ExtOf.cell (hxi.cell d0)
                      have p1 := ExtOf.cell (hxi.cell d1)
                      have p2 := ExtOf.cell (hxi.cell d2)
                      have p3 := ExtOf.cell (hxi.cell d3)
                      have p4 := ExtOf.cell (hxi.cell d4)
                      have q0 := ExtOf.cell e0
                      have q1 := ExtOf.cell e1
                      have q2 := ExtOf.cell e2
                      have q3 := ExtOf.cell e3
                      have q4 := ExtOf.cell e4
                      have r4 := ExtOf.cell (hxi.cell y4)
                      generalize hev : CL.eqE z x = ee at *
                      go_wp2_with fail
                      refine wp_region_ext_lit (by kernel_rfl) (by kernel_rfl) ?_
                      repeat (go_big_quiet_step ((go_at_call 19; exact xqX (HC.out _))))
                      refine wpQuiet_nil ?_
                      intro wq hw'
                      obtain ⟨⟨wq', hxq⟩, hw''⟩ := hw'
                      subst hw''
                      go_wp2
                      go_roundw
                      case rel => exact ⟨n + 1, by omega, by go_num, by rw [HMS.out], hxi.tr hxq⟩
                      case measure => simp [intOf]; omega
                    · rw [hd, Bool.true_or] at HMS
                      go_wp2_with fail
                      go_quiet (fail)
                      go_wp2
                      go_roundw
                      case rel => exact ⟨n + 1, by omega, by go_num, by rw [HMS.out], hxi.drewN _⟩
                      case measure => simp [intOf]; omega
                  · obtain rfl : n = ls.length := by omega
                    rw [List.take_length]
                    have y4' := hxi.cell y4
                    have d0' := hxi.cell d0
                    have d1' := hxi.cell d1
                    have d2' := hxi.cell d2
                    have d3' := hxi.cell d3
                    have d4' := hxi.cell d4
                    by_cases hin : x ∈ ls
                    · have hd : decide (x ∈ ls) = true := decide_eq_true hin
                      have HU2 := Lib.hid (show ls = CL.uniq (xs.take (m + 1)) by rw [HUT.out, ← HU.out]; unfold CL.addU; rw [if_pos hin])
                      rw [hd]
                      clear hin hd
                      go_wp2
                      exact ⟨⟨m + 1, ls, ws, Al, cl, by omega, by go_num, rfl, HU2, hll, hlc, hxl2.tr hxi, Lib.hid (own_ext HOL.out hxi), Lib.hid (HKI.out.ext hxi)⟩, by simp [intOf]; omega⟩
                    · have hd : decide (x ∈ ls) = false := decide_eq_false hin
                      have HU2 := Lib.hid (show ls ++ [x] = CL.uniq (xs.take (m + 1)) by rw [HUT.out, ← HU.out]; unfold CL.addU; rw [if_neg hin])
                      rw [hd]
                      clear hin hd
                      have hxa := Ext.new wi (.cells #[.int .i64 k2, .string s2, .int .i64 m2, .int .i64 u2, .slice A2 l2 c2] 28)
                      have hza := hxa.size
                      have HOA := Lib.hid (own_ext (own_ext HOL.out hxi) hxa)
                      have hl1' : ls.length + 1 ≤ 100 := by
                        have := congrArg List.length HU2.out
                        simp only [List.length_append, List.length_cons, List.length_nil] at this
                        omega
                      go_wp2_with (at_builtin; refine wpList_append_row _ rfl (.tmp 116) (.tmp 122) _ rfl w1.heap.size 28 5 64 _ Try.underlying26 ex_info rfl (by omega) _ _ _ rfl HOA.out _ _ _ [.int .i64 k2, .string s2, .int .i64 m2, .int .i64 u2, .slice A2 l2 c2] rfl rfl (Sits.new _ _ _) (by simp [Value.oneCell']) (by simp only [maxLen]; omega) (by omega) (by simp; omega) ?_; intro v4 w4 hown4 hb4 hg4 hrow4; obtain ⟨A4, c4, rfl, hc4, _⟩ := own_form hown4)
                      have hz4 := hg4.size
                      have hlo : ∀ x, (Value.slice Al ls.length cl).ownBlock = some x → w1.heap.size ≤ x := fun x e => (HOL.out.lt x e).1
                      have hK4 : KidsI w4 (rb + 1) (.slice A4 (ls.length + 1) c4) ls ws := ((HKI.out.ext hxi).ext hxa).grown hg4 (fun x e => .inr (.inl e)) (hrow4.imp id (fun e x h => by rw [e] at h; injection h with h; omega))
                      have hR4 : RdI w4 (rb + 1) w1.heap.size x [.int .i64 k2, .string s2, .int .i64 m2, .int .i64 u2, .slice A2 l2 c2] := (((HRX.out.ext hxi (by omega)).ext hxa (by omega))).same (Same.grown hg4 (fun x e => .inr (by have := hlo x e; omega)) (by omega))
                      have hK5 := Lib.hid (hK4.snoc hR4 (Nat.le_refl _) (by omega) (fun x e => .inr ((hown4.lt x e).1)))
                      exact ⟨⟨m + 1, ls ++ [x], ws ++ [([.int .i64 k2, .string s2, .int .i64 m2, .int .i64 u2, .slice A2 l2 c2] : List Value)], A4, c4, by omega, by go_num, by simp, HU2, by simpa using hl1', by simpa using hc4, hxl2.trans ((hxi.tr hxa).mono (by omega) |>.trans (hb4.mono (by omega))), Lib.hid (by simpa using hown4), by simpa using hK5⟩, by simp [intOf]; omega⟩
              · obtain rfl : m = xs.length := by omega
                rw [List.take_length] at HU
                rw [← HU.out] at HF
                have hbl2 := hb.ext hxl2
                have hbR2 := hbR.ext hxl2
                have hO4 : Only rb wl ((wl.setCell ⟨rb, 4, none⟩ (.slice Al ls.length cl)).setCell ⟨rb, 0, none⟩ (.int .i64 ls.length)) := (Only.rf.set 4 _).set 0 _
                have hX4 : Ext w ((wl.setCell ⟨rb, 4, none⟩ (.slice Al ls.length cl)).setCell ⟨rb, 0, none⟩ (.int .i64 ls.length)) := below_only ((HXR.out).tr hxl2) hO4 (by omega) (by omega)
                have hS4 : Same wl ((wl.setCell ⟨rb, 4, none⟩ (.slice Al ls.length cl)).setCell ⟨rb, 0, none⟩ (.int .i64 ls.length)) (rb + 1) wl.heap.size := Same.grown hO4 (fun x e => by injection e; omega) (Nat.le_refl _)
                have hZ4 : wl.heap.size ≤ ((wl.setCell ⟨rb, 4, none⟩ (.slice Al ls.length cl)).setCell ⟨rb, 0, none⟩ (.int .i64 ls.length)).heap.size := hO4.size
                obtain ⟨z0, z1, z2, z3, z4⟩ := hbl2.c5
                have z4f := hbl2.frozen 4
                have z0f := hbl2.frozen 0
                obtain ⟨q0, q1, q2, q3, q4⟩ := hbR2.c5
                have f0 := hbR2.frozen 0
                have f1 := hbR2.frozen 1
                have f2 := hbR2.frozen 2
                have f3 := hbR2.frozen 3
                have f4 := hbR2.frozen 4
                have hne : w.heap.size + 1 ≠ rb := by omega
                clear hbl2 hbR2 hO4 HOL HU HKX x0 x1 x2 x3 x4
                by_cases hone1 : ls.length = 1
                · obtain ⟨b, o, k1, s1, m1, u1, A1, l1, xx, rfl, hb1, hR1, c0, c1, c2, c3, c4⟩ := HKL.out.get (j := 0) (by omega)
                  simp only [Nat.zero_mul, Nat.add_zero] at c0 c1 c2 c3 c4
                  have hl2 : ((ls.length : Int) == 1) = true := by simp [hone1]
                  have h0l : 0 < ls.length := by omega
                  have hEq := HF.out.trans (wrap_one hone1)
                  rw [← hEq] at hR1
                  have HP := Lib.hid (MadeE.put (w := w) (p := w.heap.size + 1) (v0 := .int .i64 k1) (v1 := .string s1) (v2 := .int .i64 m1) (v3 := .int .i64 u1) (v4 := .slice A1 l1 xx) ((hR1.same hS4).wide (Nat.le_refl _) hZ4) (by omega) (by omega) hX4)
                  have hbrb : b ≠ rb := by have := HKL.out.low h0l rfl; omega
                  clear hone1 hEq hR1 hX4 hS4 hZ4 HKL
                  go_wp2
                  (try simp only [Exit.inBlock, Exit.then])
                  refine bodyPost_ret (by simp [results, Try.results60, go_sem, *]; try rfl) rfl ?_
                  exact HP.out
                · have hl2 : ((ls.length : Int) == 1) = false := beq_eq_false_iff_ne.2 (by omega)
                  have hEq := HF.out.trans (CL.wrapE_ne hone1)
                  have hR3 := HKL.out.node (K := (ls.length : Int)) (by unfold maxLen; omega) hlc
                  rw [← hEq] at hR3
                  have HP := Lib.hid (MadeE.put (w := w) (p := w.heap.size + 1) (v0 := .int .i64 (ls.length : Int)) (v1 := .string ⟨#[]⟩) (v2 := .int .i64 0) (v3 := .int .i64 0) (v4 := .slice Al ls.length cl) ((hR3.same hS4).wide (Nat.le_refl _) hZ4) (by omega) (by omega) hX4)
                  clear hone1 hEq hR3 hX4 hS4 hZ4 HKL
                  go_wp2
                  (try simp only [Exit.inBlock, Exit.then])
                  refine bodyPost_ret (by simp [results, Try.results60, go_sem, *]; try rfl) rfl ?_
                  exact HP.out
          · have HX2 : xs = CL.smpL kids := by rw [HX.out, opn_no]
            have hxlen : xs.length = kids.length := by rw [HX2, hdl]
            have h1 : k ≠ 1 := fun e => by have := HONE.out.2 e; cases this
            have h2 : k ≠ kids.length := fun e => by have := HALL.out.2 e; cases this
            have hEq := HFN.out h1 (by rw [hdl]; exact h2)
            rw [← HX2] at hEq
            have hl2 : ((xs.length : Int) == 1) = false := beq_eq_false_iff_ne.2 (by rw [hxlen]; intro e; rw [beq_eq_false_iff_ne] at hl1; exact hl1 e)
            have hR3 := HKX.out.node (K := k) (by unfold maxLen; omega) hcq
            rw [← hEq] at hR3
            obtain ⟨q0, q1, q2, q3, q4⟩ := hbR.c5
            have f0 := hbR.frozen 0
            have f1 := hbR.frozen 1
            have f2 := hbR.frozen 2
            have f3 := hbR.frozen 3
            have f4 := hbR.frozen 4
            have HP := Lib.hid (MadeE.put (w := w) (p := w.heap.size + 1) (v0 := .int .i64 k) (v1 := .string ⟨#[]⟩) (v2 := .int .i64 0) (v3 := .int .i64 0) (v4 := .slice A' xs.length c') hR3 (by omega) (by omega) HXR.out)
            have hne : w.heap.size + 1 ≠ rb := by omega
            clear hEq hR3 HX2 hxlen h1 h2 HFA HFL HFN HX HNA HONE HALL HKX
            go_wp2
            (try simp only [Exit.inBlock, Exit.then])
            refine bodyPost_ret (by simp [results, Try.results60, go_sem, *]; try rfl) rfl ?_
            exact HP.out
end Go.Proofs.Ytmolffigeobnnaa
