
/- The walks of normal's dual and the reference's. -/
import Derived.Test.YtmolffigeobnnaaNx
import Derived.Test.YtmolffigeobnnaaZ5
import Derived.Deep.DrawnRows
namespace Go.Proofs.Ytmolffigeobnnaa
open Go.RowKit
set_option linter.unusedVariables false
set_option linter.unusedSimpArgs false
set_option maxRecDepth 100000
attribute [local go_sem ↓] Go.wp_at_zero Go.wp_at_succ
theorem own_other' {w w' : World} {base : Nat} {E : TypeId} {size n : Nat} {v : Value} {xs : List Value} (h : w.ownsRow base E size v n xs) (hx : Ext w w') : w'.ownsRow base E size v n xs := own_ext h hx
theorem dualL_take {kids : List CL.Ex} {j : Nat} (hj : j < kids.length) : (CL.dualL kids).take (j + 1) = (CL.dualL kids).take j ++ [CL.dual kids[j]] := by
  rw [List.take_succ_eq_append_getElem (by rw [CL.dualL_len]; exact hj)]
  simp [CL.dualL_map]
/-- what stands behind the stores into a result's cells -/
theorem MadeE.store {w wr : World} {p rb c : Nat} {K : Int} {kids : List CL.Ex} {A : Option Addr} {v0 v1 v2 v3 v4 : Value} (h : RdI wr rb wr.heap.size (.mk K CL.noAt kids) [.int .i64 K, .string ⟨#[]⟩, .int .i64 0, .int .i64 0, .slice A kids.length c])
    (hp : w.heap.size ≤ p) (hp2 : p < rb) (hr : w.heap.size ≤ wr.heap.size) (hx : Ext w wr) :
    MadeE (.mk K CL.noAt kids) w (.returned (.agg #[.int .i64 K, .string ⟨#[]⟩, .int .i64 0, .int .i64 0, .slice A kids.length c])) (((((wr.setCell ⟨p, 0, none⟩ v0).setCell ⟨p, 1, none⟩ v1).setCell ⟨p, 2, none⟩ v2).setCell ⟨p, 3, none⟩ v3).setCell ⟨p, 4, none⟩ v4) := by
  refine ⟨_, rfl, ?_, ?_⟩
  · have h1 := h.same (Same.set5 (v0 := v0) (v1 := v1) (v2 := v2) (v3 := v3) (v4 := v4) (.inl hp2) (Nat.le_refl _))
    exact h1.wide (by omega) (by simp)
  · exact below_only hx (((((Only.rf.set 0 v0).set 1 v1).set 2 v2).set 3 v3).set 4 v4) hp hr
theorem size_mem {l : List CL.Ex} {e : CL.Ex} (h : e ∈ l) : CL.size e ≤ CL.sizeL l := by
  induction l with
  | nil => simp at h
  | cons x l ih =>
    simp only [CL.sizeL]
    rcases List.mem_cons.1 h with rfl | h
    · omega
    · have := ih h; omega
theorem box3 (w : World) (c1 : Array Value) (t1 : TypeId) (c2 : Array Value) (t2 : TypeId) (c3 : Array Value) (t3 : TypeId) :
    Blk (((w.alloc (.cells c1 t1)).alloc (.cells c2 t2)).alloc (.cells c3 t3)) w.heap.size t1 c1 ∧ Blk (((w.alloc (.cells c1 t1)).alloc (.cells c2 t2)).alloc (.cells c3 t3)) (w.heap.size + 1) t2 c2 ∧ Blk (((w.alloc (.cells c1 t1)).alloc (.cells c2 t2)).alloc (.cells c3 t3)) (w.heap.size + 1 + 1) t3 c3 ∧ Ext w (((w.alloc (.cells c1 t1)).alloc (.cells c2 t2)).alloc (.cells c3 t3)) := by
  have h2 := Blk.new (w.alloc (.cells c1 t1)) t2 c2
  have h3 := Blk.new ((w.alloc (.cells c1 t1)).alloc (.cells c2 t2)) t3 c3
  rw [World.size_alloc] at h2
  rw [World.size_alloc, World.size_alloc] at h3
  exact ⟨((Blk.new w t1 c1).alloc _).alloc _, h2.alloc _, h3, ((Ext.new _ _).tr (Ext.new _ _)).tr (Ext.new _ _)⟩
set_option maxHeartbeats 3200000 in
theorem normal.dual_c (e : CL.Ex) (hw : CL.Wf e) : CL.size e ≤ 100 → ∀ (w : World) (B : Nat) (cs : List Value), Rd w B e cs → B ≤ w.heap.size → Calls Try.prog 51 #[.agg cs.toArray] w (MadeE (CL.dual e) w) := by
  induction hw with
  | leaf a hv =>
    intro _ w B cs hR hB
    obtain ⟨A, c, rfl, hnm, hkl, hkc, hK⟩ := hR.inv
    obtain ⟨nm, m, u⟩ := a
    have HD := Lib.hid (show CL.dual (.mk 0 ⟨nm, ⟨m, u⟩⟩ []) = .mk 0 ⟨nm, ⟨m, u⟩⟩ [] by simp [CL.dual])
    have HP := Lib.hid (fun (w' : World) (hx : Ext w w') => (show MadeE (CL.dual (.mk 0 ⟨nm, ⟨m, u⟩⟩ [])) w (.returned (.agg #[.int .i64 0, .string ⟨nm.toArray⟩, .int .i64 m, .int .i64 u, .slice none 0 0])) w' by
      rw [HD.out]; exact ⟨_, rfl, RdI.leaf w' _ _ 0 ⟨nm, ⟨m, u⟩⟩ none 0 hnm, hx⟩))
    clear hR hK
    go_enter Try.func51, Try.ntmps51
    go_wp2
    (try simp only [Exit.inBlock, Exit.then])
    refine bodyPost_ret (by simp [results, Try.results51, go_sem, *]; try rfl) rfl ?_
    exact HP.out _ (by go_grown)
  | node k kids h0 h1 h2 hk ih =>
    intro hsz w B cs hR hB
    obtain ⟨A, c, rfl, hnm, hkl, hkc, hK⟩ := hR.inv
    simp only [CL.size] at hsz
    have hks : kids.length ≤ 100 := by have := CL.len_sizeL kids; omega
    have HSZ := Lib.hid (fun e (h : e ∈ kids) => (by have := size_mem h; omega : CL.size e ≤ 100))
    clear hsz
    have hkl0 : ((kids.length : Int) == 0) = false := beq_eq_false_iff_ne.2 (fun h => h0 (List.eq_nil_of_length_eq_zero (by omega)))
    have HIH := Lib.hid ih
    clear ih hR
    unfold maxLen at hkl
    have HD := Lib.hid (show CL.dual (.mk k CL.noAt kids) = .mk (kids.length - k + 1) CL.noAt (CL.dualL kids) by simp only [CL.dual]; rw [if_neg h0])
    simp only [CL.noAt] at *
    go_enter Try.func51, Try.ntmps51
    go_wp2
    obtain ⟨hbA, hbB, hbC, hxW⟩ := box3 w #[.int .i64 k, .string ⟨#[]⟩, .int .i64 0, .int .i64 0, .slice A kids.length c] 28 #[.int .i64 0, .string ⟨#[]⟩, .int .i64 0, .int .i64 0, .slice none 0 0] 28 #[.int .i64 (↑kids.length - k + 1), .string ⟨#[]⟩, .int .i64 0, .int .i64 0, .slice none 0 0] 28
    have hzW : (((w.alloc (.cells #[.int .i64 k, .string ⟨#[]⟩, .int .i64 0, .int .i64 0, .slice A kids.length c] 28)).alloc (.cells #[.int .i64 0, .string ⟨#[]⟩, .int .i64 0, .int .i64 0, .slice none 0 0] 28)).alloc (.cells #[.int .i64 (↑kids.length - k + 1), .string ⟨#[]⟩, .int .i64 0, .int .i64 0, .slice none 0 0] 28)).heap.size = w.heap.size + 1 + 1 + 1 := by simp
    generalize (((w.alloc (.cells #[.int .i64 k, .string ⟨#[]⟩, .int .i64 0, .int .i64 0, .slice A kids.length c] 28)).alloc (.cells #[.int .i64 0, .string ⟨#[]⟩, .int .i64 0, .int .i64 0, .slice none 0 0] 28)).alloc (.cells #[.int .i64 (↑kids.length - k + 1), .string ⟨#[]⟩, .int .i64 0, .int .i64 0, .slice none 0 0] 28)) = W at *
    have hrb : w.heap.size + 1 + 1 = w.heap.size + 2 := by omega
    generalize hR : w.heap.size + 1 + 1 = rb at *
    generalize hK1 : (↑kids.length - k + 1 : Int) = K at *
    have HK1 := Lib.hid hK1
    clear hK1
    have hdl : (CL.dualL kids).length = kids.length := CL.dualL_len kids
    go_loopw [24] (fun i wr => ∃ (j : Nat) (vs : List (List Value)) (A' : Option Addr) (c' : Nat), j ≤ kids.length ∧ i = .int .i64 j ∧ Below rb W wr ∧ Blk wr rb 28 #[.int .i64 K, .string ⟨#[]⟩, .int .i64 0, .int .i64 0, .slice A' j c'] ∧
      Hid (wr.ownsRow (rb + 1) 28 5 (.slice A' j c') j vs.flatten) ∧ Hid (KidsI wr (rb + 1) (.slice A' j c') ((CL.dualL kids).take j) vs)) (fun i _ => kids.length - (intOf i).toNat)
    case atStart => exact ⟨0, [], none, 0, by omega, rfl, Below.refl _ _, hbC, Lib.hid ⟨rfl, .inl ⟨rfl, rfl⟩⟩, Lib.hid (by simpa using KidsI.nil _ _ _)⟩
    case round =>
      obtain ⟨j, vs, A', c', hj, rfl, hbw, hb, HO, HK⟩ := hrel
      have hbl := hb.lt
      have hszr := hbw.size
      by_cases hlt : j < kids.length
      · have hKr := (hK.below (hxW.mono (by omega))).below (hbw.mono (by omega))
        obtain ⟨b, o, k1, s1, m1, u1, A1, l1, x1, rfl, hbB1, hRk, c0, c1, c2, c3, c4⟩ := hKr.get hlt
        have HTK := Lib.hid (dualL_take hlt)
        have hm := List.getElem_mem hlt
        have hkw := hk _ hm
        generalize kids[j] = ek at *
        have hji : (j : Int) < (kids.length : Int) := by omega
        go_wp2_with fail
        obtain ⟨hb1, hx1⟩ := box1 wr #[.int .i64 k1, .string s1, .int .i64 m1, .int .i64 u1, .slice A1 l1 x1] 28
        have hz1 : (wr.alloc (.cells #[.int .i64 k1, .string s1, .int .i64 m1, .int .i64 u1, .slice A1 l1 x1] 28)).heap.size = wr.heap.size + 1 := by simp
        have hb2 := hb.ext hx1
        have HO1 := Lib.hid (own_ext HO.out hx1)
        have HK1' := Lib.hid (HK.out.ext hx1)
        have HRK := Lib.hid (hRk.ext hx1 (by omega))
        have hbw1 := hbw.trans (hx1.mono (by omega))
        generalize (wr.alloc (.cells #[.int .i64 k1, .string s1, .int .i64 m1, .int .i64 u1, .slice A1 l1 x1] 28)) = W1 at *
        obtain ⟨d0, d1, d2, d3, d4⟩ := hb1.c5
        obtain ⟨e0, e1, e2, e3, e4⟩ := hb2.c5
        have f4 := hb2.frozen 4
        have HB := Lib.hid hb2.drew
        have HRD := Lib.hid (HRK.out.ext (Ext.drawn W1) (by omega))
        have HO2 := Lib.hid (own_drew HO1.out)
        have n1 : some rb ≠ (Value.slice A' j c').ownBlock := fun e => by have := (HO.out.lt _ e.symm).1; omega
        clear c0 c1 c2 c3 c4
        go_region_law
          (first
            | (go_simp; go_at_call 51; (with_reducible refine (HIH.out ek hm (HSZ.out ek hm) _ B _ HRD.out (by simp; omega)).mono ?_); intro r wc hp; obtain ⟨k', n', m', u', A2, l2, c2, rfl, hR2, hxc⟩ := hp.get; have HO3 := Lib.hid (own_ext HO2.out hxc); have HB3 := Lib.hid (HB.out.ext hxc); have hz2 := hxc.size; simp only [World.size_drew] at hz2; have e42 : wc.cell? ⟨rb, 4, none⟩ = some (.slice A' j c') := HB3.out.cell 4; have n2 : rb ≠ wc.heap.size := (by omega); have e42' : (wc.alloc (.cells #[.int .i64 k', .string n', .int .i64 m', .int .i64 u', .slice A2 l2 c2] 28)).cell? ⟨rb, 4, none⟩ = some (.slice A' j c') := (HB3.out.alloc _).cell 4)
            | (refine step_append_row _ (by rfl) (.tmp 29) (.tmp 32) _ (by rfl) (rb + 1) 28 5 64 _ Try.underlying26 ex_info rfl (by omega) (.slice A' j c') j vs.flatten (by rfl) (HO3.out.alloc _) _ _ _ [.int .i64 k', .string n', .int .i64 m', .int .i64 u', .slice A2 l2 c2] (by rfl) (by rfl) (Sits.new _ _ _) (by simp [Value.oneCell']) (by simp only [maxLen]; omega) (by omega) (by simp; omega) ?_; intro v3 w3 hown3 hb3 hg3 hrow3; obtain ⟨A3, c3, rfl, hc3, _⟩ := own_form hown3; have hb4 := hg3.blk (HB3.out.alloc _) n1; have e43 : w3.cell? ⟨rb, 4, none⟩ = some (.slice A' j c') := hb4.cell 4; have f43 := hb4.frozen 4))
        all_goals
          have hxa := Ext.new wc (.cells #[.int .i64 k', .string n', .int .i64 m', .int .i64 u', .slice A2 l2 c2] 28)
          have hza : (wc.alloc (.cells #[.int .i64 k', .string n', .int .i64 m', .int .i64 u', .slice A2 l2 c2] 28)).heap.size = wc.heap.size + 1 := by simp
          have hz3 := hg3.size
          have hb5 := hb4.set 4 (.slice A3 (j + 1) c3)
          have hlo : ∀ x, (Value.slice A' j c').ownBlock = some x → rb + 1 ≤ x ∧ x < wr.heap.size := fun x e => HO.out.lt x e
          have ho5 : (w3.setCell ⟨rb, 4, none⟩ (.slice A3 (j + 1) c3)).ownsRow (rb + 1) 28 5 (.slice A3 (j + 1) c3) (j + 1) (vs ++ [([.int .i64 k', .string n', .int .i64 m', .int .i64 u', .slice A2 l2 c2] : List Value)]).flatten := by
            rw [List.flatten_append]
            exact own_only hown3 (Only.rf.set 4 _) (fun e => by have := (hown3.lt _ e).1; omega)
          have hK3 : KidsI w3 (rb + 1) (.slice A3 (j + 1) c3) ((CL.dualL kids).take j) vs := (((HK1'.out.ext (Ext.drawn W1)).ext hxc).ext hxa).grown hg3 (fun x e => .inr (.inl e)) (hrow3.imp id (fun e x h => by rw [e] at h; injection h with h; omega))
          have hR3 : RdI w3 W1.heap.size wc.heap.size (CL.dual ek) [.int .i64 k', .string n', .int .i64 m', .int .i64 u', .slice A2 l2 c2] := (RdI.ext (show RdI wc W1.heap.size wc.heap.size (CL.dual ek) _ from hR2) hxa (Nat.le_refl _)).same (Same.grown hg3 (fun x e => .inl (by have := hlo x e; omega)) (by omega))
          have hK4 := hK3.snoc hR3 (by omega) (by omega) (fun x e => by
            rcases hrow3 with e' | e'
            · exact .inl (by have := hlo x (e'.symm.trans e); omega)
            · rw [e'] at e; injection e with e; omega)
          rw [← HTK.out] at hK4
          have HK5 := Lib.hid (hK4.grown (w' := w3.setCell ⟨rb, 4, none⟩ (.slice A3 (j + 1) c3)) (r := some rb) (Only.rf.set 4 _) (fun x e => .inl (by injection e; omega)) (.inl rfl))
          have hbw5 : Below rb W (w3.setCell ⟨rb, 4, none⟩ (.slice A3 (j + 1) c3)) := below_only ((((hbw1.drew).trans (hxc.mono (by simp; omega))).trans (hxa.mono (by omega))).trans (hb3.mono (by omega))) (Only.rf.set 4 _) (Nat.le_refl _) (by omega)
          have HO5 := Lib.hid ho5
          have HBW5 := Lib.hid hbw5
          have HB5 := Lib.hid hb5
          clear ho5 hown3 hb4 e43 f43 hK3 hR3 hK4 hb5 hbw5
          go_wp2
          exact ⟨⟨j + 1, _, A3, c3, by omega, by go_num, HBW5.out, (by simpa using HB5.out), HO5, HK5⟩, by simp [intOf]; omega⟩
      · obtain rfl : j = kids.length := by omega
        obtain ⟨e0, e1, e2, e3, e4⟩ := hb.c5
        have hbR := hbB.below hbw (by omega)
        obtain ⟨q0, q1, q2, q3, q4⟩ := hbR.c5
        have f0 := hbR.frozen 0
        have f1 := hbR.frozen 1
        have f2 := hbR.frozen 2
        have f3 := hbR.frozen 3
        have f4 := hbR.frozen 4
        have hKK := HK.out
        have hOO := HO.out
        rw [show (CL.dualL kids).take kids.length = CL.dualL kids by rw [← hdl, List.take_length]] at hKK
        rw [← hdl] at hKK hOO
        have hnode := hKK.node (k := K) hOO (by unfold maxLen; omega) (show rb ≤ rb + 1 by omega)
        have HP := Lib.hid (MadeE.store (w := w) (p := w.heap.size + 1) (K := K) (v0 := .int .i64 K) (v1 := .string ⟨#[]⟩) (v2 := .int .i64 0) (v3 := .int .i64 0) (v4 := .slice A' kids.length c') hnode (by omega) (by omega) (by omega) ((hxW.trans (hbw.mono (by omega)))))
        have hEq : CL.Ex.mk K CL.noAt (CL.dualL kids) = CL.dual (.mk k ⟨[], ⟨0, 0⟩⟩ kids) := by rw [HD.out]; rfl
        rw [hdl, hEq] at HP
        clear hEq
        have hne : w.heap.size + 1 ≠ rb := by omega
        clear hKK hOO hnode HO HK hK hbA hbB hbC hbR
        go_wp2
        (try simp only [Exit.inBlock, Exit.then])
        refine bodyPost_ret (by simp [results, Try.results51, go_sem, *]; try rfl) rfl ?_
        exact HP.out
set_option maxHeartbeats 3200000 in
theorem clusterlocksref09.dual_c (e : CL.Ex) (hw : CL.Wf e) : CL.size e ≤ 100 → ∀ (w : World) (B : Nat) (cs : List Value), Rd w B e cs → B ≤ w.heap.size → Calls Try.prog 52 #[.agg cs.toArray] w (MadeE (CL.dual e) w) := by
  induction hw with
  | leaf a hv =>
    intro _ w B cs hR hB
    obtain ⟨A, c, rfl, hnm, hkl, hkc, hK⟩ := hR.inv
    obtain ⟨nm, m, u⟩ := a
    have HD := Lib.hid (show CL.dual (.mk 0 ⟨nm, ⟨m, u⟩⟩ []) = .mk 0 ⟨nm, ⟨m, u⟩⟩ [] by simp [CL.dual])
    have HP := Lib.hid (fun (w' : World) (hx : Ext w w') => (show MadeE (CL.dual (.mk 0 ⟨nm, ⟨m, u⟩⟩ [])) w (.returned (.agg #[.int .i64 0, .string ⟨nm.toArray⟩, .int .i64 m, .int .i64 u, .slice A 0 c])) w' by
      rw [HD.out]; exact ⟨_, rfl, RdI.leaf w' _ _ 0 ⟨nm, ⟨m, u⟩⟩ A c hnm, hx⟩))
    clear hR hK
    go_enter Try.func52, Try.ntmps52
    go_wp2
    (try simp only [Exit.inBlock, Exit.then])
    refine bodyPost_ret (by simp [results, Try.results52, go_sem, *]; try rfl) rfl ?_
    exact HP.out _ (by go_grown)
  | node k kids h0 h1 h2 hk ih =>
    intro hsz w B cs hR hB
    obtain ⟨A, c, rfl, hnm, hkl, hkc, hK⟩ := hR.inv
    simp only [CL.size] at hsz
    have hks : kids.length ≤ 100 := by have := CL.len_sizeL kids; omega
    have HSZ := Lib.hid (fun e (h : e ∈ kids) => (by have := size_mem h; omega : CL.size e ≤ 100))
    clear hsz
    have hkl0 : (k == 0) = false := beq_eq_false_iff_ne.2 (by omega)
    have HIH := Lib.hid ih
    clear ih hR
    unfold maxLen at hkl
    have HD := Lib.hid (show CL.dual (.mk k CL.noAt kids) = .mk (kids.length - k + 1) CL.noAt (CL.dualL kids) by simp only [CL.dual]; rw [if_neg h0])
    simp only [CL.noAt] at *
    go_enter Try.func52, Try.ntmps52
    go_wp2
    obtain ⟨hbA, hbB, hbC, hxW⟩ := box3 w #[.int .i64 k, .string ⟨#[]⟩, .int .i64 0, .int .i64 0, .slice A kids.length c] 28 #[.int .i64 0, .string ⟨#[]⟩, .int .i64 0, .int .i64 0, .slice none 0 0] 28 #[.int .i64 (↑kids.length - k + 1), .string ⟨#[]⟩, .int .i64 0, .int .i64 0, .slice none 0 0] 28
    have hzW : (((w.alloc (.cells #[.int .i64 k, .string ⟨#[]⟩, .int .i64 0, .int .i64 0, .slice A kids.length c] 28)).alloc (.cells #[.int .i64 0, .string ⟨#[]⟩, .int .i64 0, .int .i64 0, .slice none 0 0] 28)).alloc (.cells #[.int .i64 (↑kids.length - k + 1), .string ⟨#[]⟩, .int .i64 0, .int .i64 0, .slice none 0 0] 28)).heap.size = w.heap.size + 1 + 1 + 1 := by simp
    generalize (((w.alloc (.cells #[.int .i64 k, .string ⟨#[]⟩, .int .i64 0, .int .i64 0, .slice A kids.length c] 28)).alloc (.cells #[.int .i64 0, .string ⟨#[]⟩, .int .i64 0, .int .i64 0, .slice none 0 0] 28)).alloc (.cells #[.int .i64 (↑kids.length - k + 1), .string ⟨#[]⟩, .int .i64 0, .int .i64 0, .slice none 0 0] 28)) = W at *
    have hrb : w.heap.size + 1 + 1 = w.heap.size + 2 := by omega
    generalize hR : w.heap.size + 1 + 1 = rb at *
    generalize hK1 : (↑kids.length - k + 1 : Int) = K at *
    have HK1 := Lib.hid hK1
    clear hK1
    have hdl : (CL.dualL kids).length = kids.length := CL.dualL_len kids
    go_loopw [4] (fun i wr => ∃ (j : Nat) (vs : List (List Value)) (A' : Option Addr) (c' : Nat), j ≤ kids.length ∧ i = .int .i64 j ∧ Below rb W wr ∧ Blk wr rb 28 #[.int .i64 K, .string ⟨#[]⟩, .int .i64 0, .int .i64 0, .slice A' j c'] ∧
      Hid (wr.ownsRow (rb + 1) 28 5 (.slice A' j c') j vs.flatten) ∧ Hid (KidsI wr (rb + 1) (.slice A' j c') ((CL.dualL kids).take j) vs)) (fun i _ => kids.length - (intOf i).toNat)
    case atStart => exact ⟨0, [], none, 0, by omega, rfl, Below.refl _ _, hbC, Lib.hid ⟨rfl, .inl ⟨rfl, rfl⟩⟩, Lib.hid (by simpa using KidsI.nil _ _ _)⟩
    case round =>
      obtain ⟨j, vs, A', c', hj, rfl, hbw, hb, HO, HK⟩ := hrel
      have hbl := hb.lt
      have hszr := hbw.size
      by_cases hlt : j < kids.length
      · have hKr := (hK.below (hxW.mono (by omega))).below (hbw.mono (by omega))
        obtain ⟨b, o, k1, s1, m1, u1, A1, l1, x1, rfl, hbB1, hRk, g0, g1, g2, g3, g4⟩ := hKr.get hlt
        have HTK := Lib.hid (dualL_take hlt)
        have hm := List.getElem_mem hlt
        have hkw := hk _ hm
        generalize kids[j] = ek at *
        have hji : (j : Int) < (kids.length : Int) := by omega
        have hb2 := hb
        have hbA' := hbA.below hbw (by omega)
        have a4 : wr.cell? ⟨w.heap.size, 4, none⟩ = some (.slice (some ⟨b, o, none⟩) kids.length c) := hbA'.cell 4
        go_wp2_with fail
        have HO1 := Lib.hid HO.out
        have HK1' := Lib.hid HK.out
        have HRK := Lib.hid hRk
        have hbw1 := hbw
        obtain ⟨W1, rfl⟩ : ∃ W1 : World, W1 = wr := ⟨_, rfl⟩
        obtain ⟨e0, e1, e2, e3, e4⟩ := hb2.c5
        have f4 := hb2.frozen 4
        have HB := Lib.hid hb2.drew
        have HRD := Lib.hid (HRK.out.ext (Ext.drawn W1) (by omega))
        have HO2 := Lib.hid (own_drew HO1.out)
        have n1 : some rb ≠ (Value.slice A' j c').ownBlock := fun e => by have := (HO.out.lt _ e.symm).1; omega
        go_region_law
          (first
            | (go_simp; go_at_call 52; (with_reducible refine (HIH.out ek hm (HSZ.out ek hm) _ B _ HRD.out (by simp; omega)).mono ?_); intro r wc hp; obtain ⟨k', n', m', u', A2, l2, c2, rfl, hR2, hxc⟩ := hp.get; have HO3 := Lib.hid (own_ext HO2.out hxc); have HB3 := Lib.hid (HB.out.ext hxc); have hz2 := hxc.size; simp only [World.size_drew] at hz2; have e42 : wc.cell? ⟨rb, 4, none⟩ = some (.slice A' j c') := HB3.out.cell 4; have n2 : rb ≠ wc.heap.size := (by omega); have e42' : (wc.alloc (.cells #[.int .i64 k', .string n', .int .i64 m', .int .i64 u', .slice A2 l2 c2] 28)).cell? ⟨rb, 4, none⟩ = some (.slice A' j c') := (HB3.out.alloc _).cell 4)
            | (refine step_append_row _ (by rfl) (.tmp 25) (.tmp 32) _ (by rfl) (rb + 1) 28 5 64 _ Try.underlying26 ex_info rfl (by omega) (.slice A' j c') j vs.flatten (by rfl) (HO3.out.alloc _) _ _ _ [.int .i64 k', .string n', .int .i64 m', .int .i64 u', .slice A2 l2 c2] (by rfl) (by rfl) (Sits.new _ _ _) (by simp [Value.oneCell']) (by simp only [maxLen]; omega) (by omega) (by simp; omega) ?_; intro v3 w3 hown3 hb3 hg3 hrow3; obtain ⟨A3, c3, rfl, hc3, _⟩ := own_form hown3; have hb4 := hg3.blk (HB3.out.alloc _) n1; have e43 : w3.cell? ⟨rb, 4, none⟩ = some (.slice A' j c') := hb4.cell 4; have f43 := hb4.frozen 4))
        all_goals
          have hxa := Ext.new wc (.cells #[.int .i64 k', .string n', .int .i64 m', .int .i64 u', .slice A2 l2 c2] 28)
          have hza : (wc.alloc (.cells #[.int .i64 k', .string n', .int .i64 m', .int .i64 u', .slice A2 l2 c2] 28)).heap.size = wc.heap.size + 1 := by simp
          have hz3 := hg3.size
          have hb5 := hb4.set 4 (.slice A3 (j + 1) c3)
          have hlo : ∀ x, (Value.slice A' j c').ownBlock = some x → rb + 1 ≤ x ∧ x < W1.heap.size := fun x e => HO.out.lt x e
          have ho5 : (w3.setCell ⟨rb, 4, none⟩ (.slice A3 (j + 1) c3)).ownsRow (rb + 1) 28 5 (.slice A3 (j + 1) c3) (j + 1) (vs ++ [([.int .i64 k', .string n', .int .i64 m', .int .i64 u', .slice A2 l2 c2] : List Value)]).flatten := by
            rw [List.flatten_append]
            exact own_only hown3 (Only.rf.set 4 _) (fun e => by have := (hown3.lt _ e).1; omega)
          have hK3 : KidsI w3 (rb + 1) (.slice A3 (j + 1) c3) ((CL.dualL kids).take j) vs := (((HK1'.out.ext (Ext.drawn W1)).ext hxc).ext hxa).grown hg3 (fun x e => .inr (.inl e)) (hrow3.imp id (fun e x h => by rw [e] at h; injection h with h; omega))
          have hR3 : RdI w3 W1.heap.size wc.heap.size (CL.dual ek) [.int .i64 k', .string n', .int .i64 m', .int .i64 u', .slice A2 l2 c2] := (RdI.ext (show RdI wc W1.heap.size wc.heap.size (CL.dual ek) _ from hR2) hxa (Nat.le_refl _)).same (Same.grown hg3 (fun x e => .inl (by have := hlo x e; omega)) (by omega))
          have hK4 := hK3.snoc hR3 (by omega) (by omega) (fun x e => by
            rcases hrow3 with e' | e'
            · exact .inl (by have := hlo x (e'.symm.trans e); omega)
            · rw [e'] at e; injection e with e; omega)
          rw [← HTK.out] at hK4
          have HK5 := Lib.hid (hK4.grown (w' := w3.setCell ⟨rb, 4, none⟩ (.slice A3 (j + 1) c3)) (r := some rb) (Only.rf.set 4 _) (fun x e => .inl (by injection e; omega)) (.inl rfl))
          have hbw5 : Below rb W (w3.setCell ⟨rb, 4, none⟩ (.slice A3 (j + 1) c3)) := below_only ((((hbw1.drew).trans (hxc.mono (by simp; omega))).trans (hxa.mono (by omega))).trans (hb3.mono (by omega))) (Only.rf.set 4 _) (Nat.le_refl _) (by omega)
          have HO5 := Lib.hid ho5
          have HBW5 := Lib.hid hbw5
          have HB5 := Lib.hid hb5
          clear ho5 hown3 hb4 e43 f43 hK3 hR3 hK4 hb5 hbw5
          go_wp2
          exact ⟨⟨j + 1, _, A3, c3, by omega, by go_num, HBW5.out, (by simpa using HB5.out), HO5, HK5⟩, by simp [intOf]; omega⟩
      · have a4 : wr.cell? ⟨w.heap.size, 4, none⟩ = some (.slice A kids.length c) := (hbA.below hbw (by omega)).cell 4
        obtain rfl : j = kids.length := by omega
        obtain ⟨e0, e1, e2, e3, e4⟩ := hb.c5
        have hbR := hbB.below hbw (by omega)
        obtain ⟨q0, q1, q2, q3, q4⟩ := hbR.c5
        have f0 := hbR.frozen 0
        have f1 := hbR.frozen 1
        have f2 := hbR.frozen 2
        have f3 := hbR.frozen 3
        have f4 := hbR.frozen 4
        have hKK := HK.out
        have hOO := HO.out
        rw [show (CL.dualL kids).take kids.length = CL.dualL kids by rw [← hdl, List.take_length]] at hKK
        rw [← hdl] at hKK hOO
        have hnode := hKK.node (k := K) hOO (by unfold maxLen; omega) (show rb ≤ rb + 1 by omega)
        have HP := Lib.hid (MadeE.store (w := w) (p := w.heap.size + 1) (K := K) (v0 := .int .i64 K) (v1 := .string ⟨#[]⟩) (v2 := .int .i64 0) (v3 := .int .i64 0) (v4 := .slice A' kids.length c') hnode (by omega) (by omega) (by omega) ((hxW.trans (hbw.mono (by omega)))))
        have hEq : CL.Ex.mk K CL.noAt (CL.dualL kids) = CL.dual (.mk k ⟨[], ⟨0, 0⟩⟩ kids) := by rw [HD.out]; rfl
        rw [hdl, hEq] at HP
        clear hEq
        have hne : w.heap.size + 1 ≠ rb := by omega
        clear hKK hOO hnode HO HK hK hbA hbB hbC hbR
        go_wp2
        (try simp only [Exit.inBlock, Exit.then])
        refine bodyPost_ret (by simp [results, Try.results52, go_sem, *]; try rfl) rfl ?_
        exact HP.out
end Go.Proofs.Ytmolffigeobnnaa
