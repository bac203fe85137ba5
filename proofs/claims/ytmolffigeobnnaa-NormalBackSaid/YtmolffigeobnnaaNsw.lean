
/- The walks of normal's simplify and Simplify. -/
import Derived.Test.YtmolffigeobnnaaNmr
namespace Go.Proofs.Ytmolffigeobnnaa
open Go.RowKit
set_option linter.unusedVariables false
set_option linter.unusedSimpArgs false
set_option maxRecDepth 100000
theorem smpL_take {kids : List CL.Ex} {j : Nat} (hj : j < kids.length) : (CL.smpL kids).take (j + 1) = (CL.smpL kids).take j ++ [CL.smp kids[j]] := by
  rw [List.take_succ_eq_append_getElem (by rw [CL.smpL_len]; exact hj)]
  simp [CL.smpL_map]
theorem smpL_size {kids : List CL.Ex} (h : ∀ e ∈ kids, CL.Wf e) : CL.sizeL (CL.smpL kids) ≤ CL.sizeL kids := by
  induction kids with
  | nil => simp [CL.smpL]
  | cons e l ih =>
    have h1 := (CL.smp_facts (h e (by simp))).2.1
    have h2 := ih (fun x hx => h x (by simp [hx]))
    simp only [CL.smpL, CL.sizeL]; omega
theorem KidsH.node {w : World} {lo hi : Nat} {A : Option Addr} {ks : List CL.Ex} {c : Nat} {K : Int} (h : KidsH w lo hi A ks) (hl : ks.length ≤ maxLen) (hc : ks.length ≤ c) : RdI w lo hi (.mk K CL.noAt ks) [.int .i64 K, .string ⟨#[]⟩, .int .i64 0, .int .i64 0, .slice A ks.length c] := by
  obtain ⟨vs, h1, h2, h3⟩ := h
  have h5 : ∀ v ∈ vs, v.length = 5 := fun v hv => by
    obtain ⟨i, hi, rfl⟩ := List.mem_iff_getElem.1 hv
    exact (h3 i (by omega) hi).len
  exact RdI.mk (w := w) (lo := lo) (hi := hi) K [] 0 0 ks A c vs (by simp) hl hc h1 h5 h2 h3
theorem KidsI.kidsH {w : World} {base : Nat} {kids : List CL.Ex} {vs : List (List Value)} {A : Option Addr} {c : Nat} (h : KidsI w base (.slice A kids.length c) kids vs) (ho : w.ownsRow base 28 5 (.slice A kids.length c) kids.length vs.flatten) : KidsH w base w.heap.size A kids :=
  ⟨vs, h.1, SitsIn.of (Sits.of_own ho) (fun b o _ e => own_base ho e), fun i a b => by
    obtain ⟨lo', hi', p1, p2, p3, _⟩ := h.2 i a b
    exact p3.wide p1 p2⟩
theorem wrap_one {k : Int} {l : List CL.Ex} (h : l.length = 1) : CL.wrapE k l = l[0]'(by omega) := by
  match l, h with
  | [x], _ => rfl
theorem fin_one {k : Int} {l : List CL.Ex} (h : l.length = 1) : CL.fin k l = l[0]'(by omega) := by
  unfold CL.fin; rw [if_pos h, wrap_one h]
theorem fin_any {k : Int} {l : List CL.Ex} (h : l.length ≠ 1) (hk : k = 1) : CL.fin k l = CL.wrapE k (CL.mrg CL.pAny l) := by
  unfold CL.fin; rw [if_neg h, if_pos hk]
theorem fin_all {k : Int} {l : List CL.Ex} (h : l.length ≠ 1) (hk : k ≠ 1) (hl : k = l.length) : CL.fin k l = CL.wrapE (CL.mrg CL.pAll l).length (CL.mrg CL.pAll l) := by
  unfold CL.fin; rw [if_neg h, if_neg hk, if_pos hl]
theorem fin_no {k : Int} {l : List CL.Ex} (h : l.length ≠ 1) (hk : k ≠ 1) (hl : k ≠ l.length) : CL.fin k l = .mk k CL.noAt l := by
  unfold CL.fin; rw [if_neg h, if_neg hk, if_neg hl, CL.wrapE_ne h]
theorem mrg_len (p : CL.Ex → Bool) (l : List CL.Ex) : (CL.mrg p l).length ≤ CL.sizeL l := by
  have := mrT_len p l l.length
  unfold mrT at this
  rw [List.take_length] at this; exact this
set_option maxHeartbeats 6400000 in
theorem normal.simplify_c (e : CL.Ex) (hw : CL.Wf e) : CL.size e ≤ 100 → ∀ (w : World) (B : Nat) (cs : List Value), Rd w B e cs → B ≤ w.heap.size → Calls Try.prog 59 #[.agg cs.toArray] w (MadeE (CL.smp e) w) := by
  induction hw with
  | leaf a hv =>
    intro _ w B cs hR hB
    obtain ⟨A, c, rfl, hnm, hkl, hkc, hK⟩ := hR.inv
    obtain ⟨nm, m, u⟩ := a
    have HD := Lib.hid (show CL.smp (.mk 0 ⟨nm, ⟨m, u⟩⟩ []) = .mk 0 ⟨nm, ⟨m, u⟩⟩ [] by simp [CL.smp])
    have HP := Lib.hid (fun (w' : World) (hx : Ext w w') => (show MadeE (CL.smp (.mk 0 ⟨nm, ⟨m, u⟩⟩ [])) w (.returned (.agg #[.int .i64 0, .string ⟨nm.toArray⟩, .int .i64 m, .int .i64 u, .slice none 0 0])) w' by
      rw [HD.out]; exact ⟨_, rfl, RdI.leaf w' _ _ 0 ⟨nm, ⟨m, u⟩⟩ none 0 hnm, hx⟩))
    clear hR hK
    go_enter Try.func59, Try.ntmps59
    go_wp2
    (try simp only [Exit.inBlock, Exit.then])
    refine bodyPost_ret (by simp [results, Try.results59, go_sem, *]; try rfl) rfl ?_
    exact HP.out _ (by go_grown)
  | node k kids h0 h1 h2 hk ih =>
    intro hsz w B cs hR hB
    obtain ⟨A, c, rfl, hnm, hkl, hkc, hK⟩ := hR.inv
    simp only [CL.size] at hsz
    have hks : kids.length ≤ 100 := by have := CL.len_sizeL kids; omega
    have HSZ := Lib.hid (fun e (h : e ∈ kids) => (by have := size_mem h; omega : CL.size e ≤ 100))
    have HSL := Lib.hid (show CL.sizeL (CL.smpL kids) ≤ 100 by have := smpL_size hk; omega)
    clear hsz
    have hkl0 : ((kids.length : Int) == 0) = false := beq_eq_false_iff_ne.2 (fun h => h0 (List.eq_nil_of_length_eq_zero (by omega)))
    have HIH := Lib.hid ih
    clear ih hR
    unfold maxLen at hkl
    have HD := Lib.hid (show CL.smp (.mk k CL.noAt kids) = CL.fin k (CL.smpL kids) by simp only [CL.smp]; rw [if_neg h0])
    simp only [CL.noAt] at *
    obtain ⟨hbA, hbB, hxW⟩ := boxE2 w #[.int .i64 k, .string ⟨#[]⟩, .int .i64 0, .int .i64 0, .slice A kids.length c] 28 #[.int .i64 0, .string ⟨#[]⟩, .int .i64 0, .int .i64 0, .slice none 0 0] 28
    have hzW : ((w.alloc (.cells #[.int .i64 k, .string ⟨#[]⟩, .int .i64 0, .int .i64 0, .slice A kids.length c] 28)).alloc (.cells #[.int .i64 0, .string ⟨#[]⟩, .int .i64 0, .int .i64 0, .slice none 0 0] 28)).heap.size = w.heap.size + 2 := by simp
    go_enter Try.func59, Try.ntmps59
    go_wp2
    generalize ((w.alloc (.cells #[.int .i64 k, .string ⟨#[]⟩, .int .i64 0, .int .i64 0, .slice A kids.length c] 28)).alloc (.cells #[.int .i64 0, .string ⟨#[]⟩, .int .i64 0, .int .i64 0, .slice none 0 0] 28)) = W at *
    have hdl : (CL.smpL kids).length = kids.length := CL.smpL_len kids
    go_loopw [3, 17] (fun v i wr => ∃ (j : Nat) (vs : List (List Value)) (A' : Option Addr) (c' : Nat), j ≤ kids.length ∧ i = .int .i64 j ∧ v = .slice A' j c' ∧ Ext W wr ∧
      Hid (wr.ownsRow (w.heap.size + 2) 28 5 (.slice A' j c') j vs.flatten) ∧ Hid (KidsI wr (w.heap.size + 2) (.slice A' j c') ((CL.smpL kids).take j) vs)) (fun _ i _ => kids.length - (intOf i).toNat)
    case atStart => exact ⟨0, [], none, 0, by omega, rfl, rfl, Ext.rfl', Lib.hid ⟨rfl, .inl ⟨rfl, rfl⟩⟩, Lib.hid (by simpa using KidsI.nil _ _ _)⟩
    case round =>
      obtain ⟨j, vs, A', c', hj, rfl, rfl, hxr, HO, HK⟩ := hrel
      have hszr := hxr.size
      by_cases hlt : j < kids.length
      · have hKr := (hK.below ((hxW.tr hxr).mono (by omega)))
        obtain ⟨b, o, k1, s1, m1, u1, A1, l1, x1, rfl, hbB1, hRk, c0, c1, c2, c3, c4⟩ := hKr.get hlt
        have HTK := Lib.hid (smpL_take hlt)
        have hm := List.getElem_mem hlt
        generalize kids[j] = ek at *
        have hji : (j : Int) < (kids.length : Int) := by omega
        obtain ⟨hb1, hx1⟩ := box1 wr #[.int .i64 k1, .string s1, .int .i64 m1, .int .i64 u1, .slice A1 l1 x1] 28
        have hz1 := hx1.size
        have HRK := Lib.hid (hRk.ext hx1 (by omega))
        have HO1 := Lib.hid (own_ext HO.out hx1)
        have HK1 := Lib.hid (HK.out.ext hx1)
        have hlo : ∀ x, (Value.slice A' j c').ownBlock = some x → w.heap.size + 2 ≤ x ∧ x < wr.heap.size := fun x e => HO.out.lt x e
        go_wp2_with fail
        refine (HIH.out ek hm (HSZ.out ek hm) _ B _ HRK.out (by omega)).mono ?_
        intro r wc hp
        obtain ⟨k', n', m', u', A2, l2, x2, rfl, hR2, hxc⟩ := hp.get
        have hz2 := hxc.size
        have HO2 := Lib.hid ((own_ext HO1.out hxc).alloc (.cells #[.int .i64 k', .string n', .int .i64 m', .int .i64 u', .slice A2 l2 x2] 28))
        have hxa := Ext.new wc (.cells #[.int .i64 k', .string n', .int .i64 m', .int .i64 u', .slice A2 l2 x2] 28)
        have hza : (wc.alloc (.cells #[.int .i64 k', .string n', .int .i64 m', .int .i64 u', .slice A2 l2 x2] 28)).heap.size = wc.heap.size + 1 := by simp
        go_wp2_with (at_builtin; refine wpList_append_row _ rfl (.tmp 21) (.tmp 24) _ rfl (w.heap.size + 2) 28 5 64 _ Try.underlying26 ex_info rfl (by omega) _ _ _ rfl HO2.out _ _ _ [.int .i64 k', .string n', .int .i64 m', .int .i64 u', .slice A2 l2 x2] rfl rfl (Sits.new _ _ _) (by simp [Value.oneCell']) (by simp only [maxLen]; omega) (by omega) (by simp; omega) ?_; intro v3 w3 hown3 hb3 hg3 hrow3; obtain ⟨A3, c3, rfl, hc3, _⟩ := own_form hown3)
        have hK3 : KidsI w3 (w.heap.size + 2) (.slice A3 (j + 1) c3) ((CL.smpL kids).take j) vs := ((HK1.out.ext hxc).ext hxa).grown hg3 (fun x e => .inr (.inl e)) (hrow3.imp id (fun e x h => by rw [e] at h; injection h with h; omega))
        have hzw1 : (wr.alloc (.cells #[.int .i64 k1, .string s1, .int .i64 m1, .int .i64 u1, .slice A1 l1 x1] 28)).heap.size = wr.heap.size + 1 := by simp
        have hR3 := (hR2.ext hxa (Nat.le_refl _)).same (Same.grown hg3 (fun x e => .inl (by have := hlo x e; omega)) (by omega))
        have hz3 := hg3.size
        have hK4 := hK3.snoc hR3 (by omega) (by omega) (fun x e => by
          rcases hrow3 with e' | e'
          · exact .inl (by have := hlo x (e'.symm.trans e); omega)
          · rw [e'] at e; injection e with e; omega)
        rw [← HTK.out] at hK4
        exact ⟨⟨j + 1, _, A3, c3, by omega, by go_num, rfl, hxr.trans ((((hx1.tr hxc).tr hxa).mono (by omega)).trans (hb3.mono (by omega))), Lib.hid (by simpa using hown3), Lib.hid hK4⟩, by simp [intOf]; omega⟩
      · obtain rfl : j = kids.length := by omega
        have hKK := HK.out
        have hOO := HO.out
        rw [show (CL.smpL kids).take kids.length = CL.smpL kids by rw [← hdl, List.take_length]] at hKK
        rw [← hdl] at hKK hOO
        have hKH := hKK.kidsH hOO
        obtain ⟨Aq, cq, ev, hcc, _⟩ := own_form hOO
        injection ev with ev1 _ ev3
        subst ev1 ev3
        have hbAr := hbA.ext hxr
        have hbBr := hbB.ext hxr
        obtain ⟨e0, e1, e2, e3, e4⟩ := hbAr.c5
        obtain ⟨q0, q1, q2, q3, q4⟩ := hbBr.c5
        have f0 := hbBr.frozen 0
        have f1 := hbBr.frozen 1
        have f2 := hbBr.frozen 2
        have f3 := hbBr.frozen 3
        have f4 := hbBr.frozen 4
        have HXR := Lib.hid (hxW.tr hxr)
        have HKH := Lib.hid hKH
        clear hKK hOO hKH HO HK hK hbA hbB
        rw [← hdl] at *
        generalize hks' : CL.smpL kids = ks at *
        have HKS := Lib.hid hks'
        clear hks'
        have hzr := hbBr.lt
        by_cases h1l : ks.length = 1
        · obtain ⟨b, o, k1, s1, m1, u1, A1, l1, x1, rfl, hb1, hR1, c0, c1, c2, c3, c4⟩ := HKH.out.get (j := 0) (by omega)
          simp only [Nat.zero_mul, Nat.add_zero] at c0 c1 c2 c3 c4
          have hl1 : ((ks.length : Int) == 1) = true := by simp [h1l]
          have h0l : 0 < ks.length := by omega
          have hEq := HD.out.trans (fin_one h1l)
          rw [← hEq] at hR1
          have HP := Lib.hid (MadeE.put (w := w) (p := w.heap.size + 1) (v0 := .int .i64 k1) (v1 := .string s1) (v2 := .int .i64 m1) (v3 := .int .i64 u1) (v4 := .slice A1 l1 x1) hR1 (by omega) (by omega) HXR.out)
          clear h1l hEq
          go_wp2
          (try simp only [Exit.inBlock, Exit.then])
          refine bodyPost_ret (by simp [results, Try.results59, go_sem, *]; try rfl) rfl ?_
          exact HP.out
        · have hl1 : ((ks.length : Int) == 1) = false := beq_eq_false_iff_ne.2 (by omega)
          by_cases hk1 : k = 1
          · have hk1' : (k == 1) = true := by simp [hk1]
            have HEQ := Lib.hid (HD.out.trans (fin_any h1l hk1))
            have HLM := Lib.hid (mrg_len CL.pAny ks)
            clear h1l hk1
            go_wp2_with fail
            (with_reducible refine (mergeAny_c ks A' c' (w.heap.size + 2) wr HKH.out (by omega) HSL.out).mono ?_)
            rintro r w3 ⟨A3, c3, rfl, hc3, hKH3, hx3⟩
            generalize CL.mrg CL.pAny ks = mm at *
            have hmm : mm.length ≤ 100 := Nat.le_trans HLM.out HSL.out
            have HKH3 := Lib.hid hKH3
            have HX3 := Lib.hid (HXR.out.tr hx3)
            have hbB3 := hbBr.ext hx3
            have hz3 := hx3.size
            have hzb := hbBr.lt
            clear q0 q1 q2 q3 q4 f0 f1 f2 f3 f4 hKH3 hx3 HKH HXR hbBr e0 e1 e2 e3 e4
            obtain ⟨q0, q1, q2, q3, q4⟩ := hbB3.c5
            have f0 := hbB3.frozen 0
            have f1 := hbB3.frozen 1
            have f2 := hbB3.frozen 2
            have f3 := hbB3.frozen 3
            have f4 := hbB3.frozen 4
            by_cases hone : mm.length = 1
            · obtain ⟨b, o, k1, s1, m1, u1, A1, l1, x1, rfl, hb1, hR1, c0, c1, c2, c3', c4⟩ := HKH3.out.get (j := 0) (by omega)
              simp only [Nat.zero_mul, Nat.add_zero] at c0 c1 c2 c3' c4
              have hl2 : ((mm.length : Int) == 1) = true := by simp [hone]
              have h0l : 0 < mm.length := by omega
              have hEq := HEQ.out.trans (wrap_one hone)
              rw [← hEq] at hR1
              have HP := Lib.hid (MadeE.put (w := w) (p := w.heap.size + 1) (v0 := .int .i64 k1) (v1 := .string s1) (v2 := .int .i64 m1) (v3 := .int .i64 u1) (v4 := .slice A1 l1 x1) hR1 (by omega) (by omega) HX3.out)
              clear hone hEq
              go_wp2
              (try simp only [Exit.inBlock, Exit.then])
              refine bodyPost_ret (by simp [results, Try.results59, go_sem, *]; try rfl) rfl ?_
              exact HP.out
            · have hl2 : ((mm.length : Int) == 1) = false := beq_eq_false_iff_ne.2 (by omega)
              have hEq := HEQ.out.trans (CL.wrapE_ne hone)
              have hR3 := HKH3.out.node (K := k) (by unfold maxLen; omega) hc3
              rw [← hEq] at hR3
              have HP := Lib.hid (MadeE.put (w := w) (p := w.heap.size + 1) (v0 := .int .i64 k) (v1 := .string ⟨#[]⟩) (v2 := .int .i64 0) (v3 := .int .i64 0) (v4 := .slice A3 mm.length c3) hR3 (by omega) (by omega) HX3.out)
              clear hone hEq hR3
              go_wp2
              (try simp only [Exit.inBlock, Exit.then])
              refine bodyPost_ret (by simp [results, Try.results59, go_sem, *]; try rfl) rfl ?_
              exact HP.out
          · have hk1' : (k == 1) = false := beq_eq_false_iff_ne.2 hk1
            by_cases hk2 : k = ks.length
            · have hk2' : (k == (ks.length : Int)) = true := by simp [hk2]
              have HEQ := Lib.hid (HD.out.trans (fin_all h1l hk1 hk2))
              have HLM := Lib.hid (mrg_len CL.pAll ks)
              clear h1l hk1 hk2
              go_wp2_with fail
              (with_reducible refine (mergeAll_c ks A' c' (w.heap.size + 2) wr HKH.out (by omega) HSL.out).mono ?_)
              rintro r w3 ⟨A3, c3, rfl, hc3, hKH3, hx3⟩
              generalize CL.mrg CL.pAll ks = mm at *
              have hmm : mm.length ≤ 100 := Nat.le_trans HLM.out HSL.out
              have HKH3 := Lib.hid hKH3
              have HX3 := Lib.hid (HXR.out.tr hx3)
              have hbB3 := hbBr.ext hx3
              have hz3 := hx3.size
              have hzb := hbBr.lt
              clear q0 q1 q2 q3 q4 f0 f1 f2 f3 f4 hKH3 hx3 HKH HXR hbBr e0 e1 e2 e3 e4
              obtain ⟨q0, q1, q2, q3, q4⟩ := hbB3.c5
              have f0 := hbB3.frozen 0
              have f1 := hbB3.frozen 1
              have f2 := hbB3.frozen 2
              have f3 := hbB3.frozen 3
              have f4 := hbB3.frozen 4
              by_cases hone : mm.length = 1
              · obtain ⟨b, o, k1, s1, m1, u1, A1, l1, x1, rfl, hb1, hR1, c0, c1, c2, c3', c4⟩ := HKH3.out.get (j := 0) (by omega)
                simp only [Nat.zero_mul, Nat.add_zero] at c0 c1 c2 c3' c4
                have hl2 : ((mm.length : Int) == 1) = true := by simp [hone]
                have h0l : 0 < mm.length := by omega
                have hEq := HEQ.out.trans (wrap_one hone)
                rw [← hEq] at hR1
                have HP := Lib.hid (MadeE.put (w := w) (p := w.heap.size + 1) (v0 := .int .i64 k1) (v1 := .string s1) (v2 := .int .i64 m1) (v3 := .int .i64 u1) (v4 := .slice A1 l1 x1) hR1 (by omega) (by omega) HX3.out)
                clear hone hEq
                go_wp2
                (try simp only [Exit.inBlock, Exit.then])
                refine bodyPost_ret (by simp [results, Try.results59, go_sem, *]; try rfl) rfl ?_
                exact HP.out
              · have hl2 : ((mm.length : Int) == 1) = false := beq_eq_false_iff_ne.2 (by omega)
                have hEq := HEQ.out.trans (CL.wrapE_ne hone)
                have hR3 := HKH3.out.node (K := (mm.length : Int)) (by unfold maxLen; omega) hc3
                rw [← hEq] at hR3
                have HP := Lib.hid (MadeE.put (w := w) (p := w.heap.size + 1) (v0 := .int .i64 (mm.length : Int)) (v1 := .string ⟨#[]⟩) (v2 := .int .i64 0) (v3 := .int .i64 0) (v4 := .slice A3 mm.length c3) hR3 (by omega) (by omega) HX3.out)
                clear hone hEq hR3
                go_wp2
                (try simp only [Exit.inBlock, Exit.then])
                refine bodyPost_ret (by simp [results, Try.results59, go_sem, *]; try rfl) rfl ?_
                exact HP.out
            · have hk2' : (k == (ks.length : Int)) = false := beq_eq_false_iff_ne.2 hk2
              have hEq := HD.out.trans (fin_no h1l hk1 hk2)
              have hlen100 : ks.length ≤ 100 := by have := CL.len_sizeL ks; have := HSL.out; omega
              have hR3 := HKH.out.node (K := k) (by unfold maxLen; omega) hcc
              rw [← hEq] at hR3
              have HP := Lib.hid (MadeE.put (w := w) (p := w.heap.size + 1) (v0 := .int .i64 k) (v1 := .string ⟨#[]⟩) (v2 := .int .i64 0) (v3 := .int .i64 0) (v4 := .slice A' ks.length c') hR3 (by omega) (by omega) HXR.out)
              clear h1l hk1 hk2 hEq hR3
              go_wp2
              (try simp only [Exit.inBlock, Exit.then])
              refine bodyPost_ret (by simp [results, Try.results59, go_sem, *]; try rfl) rfl ?_
              exact HP.out
end Go.Proofs.Ytmolffigeobnnaa
