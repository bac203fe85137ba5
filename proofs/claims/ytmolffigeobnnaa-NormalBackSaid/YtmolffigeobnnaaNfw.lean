
/- The walks of normal's FromSets and the reference's. -/
import Derived.Test.YtmolffigeobnnaaNfm
import Derived.Deep.DrawnRows
namespace Go.Proofs.Ytmolffigeobnnaa
open Go.RowKit
set_option linter.unusedVariables false
set_option linter.unusedSimpArgs false
set_option maxRecDepth 100000
attribute [local go_sem ↓] Go.wp_at_zero Go.wp_at_succ
set_option maxHeartbeats 12800000 in
theorem FromSets_c (l : List CL.At) (ss : List (List Int)) (A D : Option Addr) (c d : Nat) (w : World) (hl : l.length ≤ maxLen) (hss : ss.length ≤ maxLen) (hn : ∀ a ∈ l, a.n.length ≤ maxLen) (hA : Sits w A (ats l)) (hD : MatS w D ss) :
    Calls Try.prog 41 #[.slice A l.length c, .slice D ss.length d] w (FromPost l ss w) := by
  unfold maxLen at hl hss
  obtain ⟨hbA, hbB, hxW⟩ := boxE2 w #[.int .i64 0, .string ⟨#[]⟩, .int .i64 0, .int .i64 0, .slice none 0 0] 28 #[.int .i64 1, .string ⟨#[]⟩, .int .i64 0, .int .i64 0, .slice none 0 0] 28
  by_cases hlong : 24 < ss.length
  · have g0 : decide ((ss.length : Int) > 24) = true := by simp; omega
    have HP := Lib.hid (fun (w' : World) (hx : Ext w w') => FromPost.no (w := w) (w' := w') (CL.fromOK_long (l := l) hlong) hx)
    go_enter Try.func41, Try.ntmps41
    go_wp2
    (try simp only [Exit.inBlock, Exit.then])
    refine bodyPost_ret (by simp [results, Try.results41, go_sem, *]; try rfl) rfl ?_
    exact HP.out _ (by go_grown)
  · have g0 : decide ((ss.length : Int) > 24) = false := by simp; omega
    have hss24 : ss.length ≤ 24 := by omega
    have HBAD := Lib.hid (fun (w' : World) (hb : CL.fromOK l ss = false) (hx : Ext w w') => FromPost.no (w := w) (w' := w') hb hx)
    have HN := Lib.hid hn
    clear hlong hn
    go_enter Try.func41, Try.ntmps41
    go_wp2
    have hzW : ((w.alloc (.cells #[.int .i64 0, .string ⟨#[]⟩, .int .i64 0, .int .i64 0, .slice none 0 0] 28)).alloc (.cells #[.int .i64 1, .string ⟨#[]⟩, .int .i64 0, .int .i64 0, .slice none 0 0] 28)).heap.size = w.heap.size + 1 + 1 := by simp
    generalize ((w.alloc (.cells #[.int .i64 0, .string ⟨#[]⟩, .int .i64 0, .int .i64 0, .slice none 0 0] 28)).alloc (.cells #[.int .i64 1, .string ⟨#[]⟩, .int .i64 0, .int .i64 0, .slice none 0 0] 28)) = W at *
    have hrb : w.heap.size + 1 = w.heap.size + 1 := rfl
    generalize hR : w.heap.size + 1 = rb at *
    have HA := Lib.hid hA
    have HD := Lib.hid hD
    clear hA hD
    go_loopw [19] (fun i wr => ∃ (j : Nat) (vs : List (List Value)) (A' : Option Addr) (c' : Nat), j ≤ ss.length ∧ i = .int .i64 j ∧ Below rb W wr ∧ Blk wr rb 28 #[.int .i64 1, .string ⟨#[]⟩, .int .i64 0, .int .i64 0, .slice A' j c'] ∧
      Hid (wr.ownsRow (rb + 1) 28 5 (.slice A' j c') j vs.flatten) ∧ Hid (KidsI wr (rb + 1) (.slice A' j c') ((ss.take j).map (CL.groupOf l)) vs) ∧ Hid ((ss.take j).all (CL.okSet l) = true)) (fun i _ => ss.length - (intOf i).toNat)
    case atStart => exact ⟨0, [], none, 0, by omega, rfl, Below.refl _ _, hbB, Lib.hid ⟨rfl, .inl ⟨rfl, rfl⟩⟩, Lib.hid (by simpa using KidsI.nil _ _ _), Lib.hid (by simp)⟩
    case round =>
      obtain ⟨j, vs, A', c', hj, rfl, hbw, hb, HO, HK, HOK⟩ := hrel
      obtain ⟨wo, rfl⟩ : ∃ wo : World, wo = wr := ⟨_, rfl⟩
      have hbl := hb.lt
      have hszr := hbw.size
      have hxo : Ext w wo := hxW.trans (hbw.mono (by omega))
      have HXO := Lib.hid hxo
      have bA := hbA.below hbw (by omega)
      clear hxo
      by_cases hlt : j < ss.length
      · obtain ⟨b1, o1, Ai, ci, hDe, hc1, hlen1, hS1⟩ := (HD.out.ext HXO.out).get hlt
        have HGT := Lib.hid (groups_take (l := l) hlt)
        have HAT := Lib.hid (fun hs => all_take hlt HOK.out hs)
        have HMEM := Lib.hid (fun h => CL.fromOK_bad (l := l) (List.getElem_mem hlt) h)
        generalize ss[j] = s at *
        subst hDe
        have hji : (j : Int) < (ss.length : Int) := by omega
        unfold maxLen at hlen1
        by_cases hlong1 : 24 < s.length
        · have g1 : decide ((s.length : Int) > 24) = true := by simp; omega
          have HB := Lib.hid (HMEM.out (CL.okSet_long hlong1))
          obtain ⟨q0, q1, q2, q3, q4⟩ := bA.c5
          have f0 := bA.frozen 0
          have f1 := bA.frozen 1
          have f2 := bA.frozen 2
          have f3 := bA.frozen 3
          have f4 := bA.frozen 4
          clear hlong1 HMEM HAT HGT HO HK HOK hS1 hb
          go_wp2
          (try simp only [Exit.inBlock, Exit.then])
          refine bodyPost_ret (by simp [results, Try.results41, go_sem, *]; try rfl) rfl ?_
          exact HBAD.out _ HB.out (below_only HXO.out (((((Only.rf.set 0 _).set 1 _).set 2 _).set 3 _).set 4 _) (by omega) (by omega))
        · have g1 : decide ((s.length : Int) > 24) = false := by simp; omega
          have hs24 : s.length ≤ 24 := by omega
          have HS1 := Lib.hid hS1
          clear hlong1 hS1
          go_wp2
          have hbG := Blk.new wo 28 #[.int .i64 s.length, .string ⟨#[]⟩, .int .i64 0, .int .i64 0, .slice none 0 0]
          have hxG := Ext.new wo (.cells #[.int .i64 s.length, .string ⟨#[]⟩, .int .i64 0, .int .i64 0, .slice none 0 0] 28)
          have hzG : (wo.alloc (.cells #[.int .i64 s.length, .string ⟨#[]⟩, .int .i64 0, .int .i64 0, .slice none 0 0] 28)).heap.size = wo.heap.size + 1 := by simp
          generalize (wo.alloc (.cells #[.int .i64 s.length, .string ⟨#[]⟩, .int .i64 0, .int .i64 0, .slice none 0 0] 28)) = W1 at *
          go_loopw [32] (fun i wi => ∃ (k : Nat) (us : List (List Value)) (A2 : Option Addr) (c2 : Nat), k ≤ s.length ∧ i = .int .i64 k ∧ Ext wo wi ∧ Blk wi wo.heap.size 28 #[.int .i64 s.length, .string ⟨#[]⟩, .int .i64 0, .int .i64 0, .slice A2 k c2] ∧
            Hid (wi.ownsRow (wo.heap.size + 1) 28 5 (.slice A2 k c2) k us.flatten) ∧ Hid (KidsI wi (wo.heap.size + 1) (.slice A2 k c2) ((s.take k).map (CL.leafOf l)) us) ∧ Hid (InR l (s.take k))) (fun i _ => s.length - (intOf i).toNat)
          case atStart => exact ⟨0, [], none, 0, by omega, rfl, hxG, hbG, Lib.hid ⟨rfl, .inl ⟨rfl, rfl⟩⟩, Lib.hid (by simpa using KidsI.nil _ _ _), Lib.hid (fun z hz => by simp at hz)⟩
          case round =>
            obtain ⟨k, us, A2, c2, hk, rfl, hxi, hbi, HOI, HKI, HIN⟩ := hrel
            obtain ⟨wi, rfl⟩ : ∃ wi : World, wi = wr := ⟨_, rfl⟩
            have hzi := hxi.size
            have hgi := hbi.lt
            have hc1' := hxi.cell hc1
            have HXI := Lib.hid (HXO.out.tr hxi)
            have bAi := bA.ext hxi
            by_cases hlt2 : k < s.length
            · obtain ⟨b2, o2, hAe, hc2⟩ := sits_int9 (HS1.out.ext hxi) hlt2
              subst hAe
              have hki : (k : Int) < (s.length : Int) := by omega
              have HLT := Lib.hid (leafs_take (l := l) hlt2)
              by_cases hz : 0 ≤ s[k] ∧ s[k] < (l.length : Int)
              · have HIR := Lib.hid (inR_take hlt2 HIN.out hz)
                obtain ⟨q, hq⟩ := Int.eq_ofNat_of_zero_le hz.1
                rw [hq] at hc2 HLT hz
                have hql : q < l.length := by omega
                obtain ⟨b3, o3, hAe3, a0, a1, a2⟩ := (HA.out.ext HXI.out).atoms hql
                subst hAe3
                rw [leaf_at hql] at HLT
                have HNQ := Lib.hid (HN.out _ (List.getElem_mem hql))
                generalize l[q] = at' at *
                obtain ⟨nm, m, u⟩ := at'
                have g2 : decide ((q : Int) < 0) = false := decide_eq_false (by omega)
                have g3 : decide ((q : Int) ≥ (l.length : Int)) = false := by simp; omega
                have hqi : (q : Int) < (l.length : Int) := by omega
                clear hq hz
                simp only at a0 a1 a2
                go_wp2_with fail
                have n1 : some wo.heap.size ≠ (Value.slice A2 k c2).ownBlock := fun e => by have := (HOI.out.lt _ e.symm).1; omega
                have HOD := Lib.hid (own_drew HOI.out)
                have HBD := Lib.hid hbi.drew
                have e4 := hbi.cell 4
                have e4' : ∀ ob, (wi.drew.alloc ob).cell? ⟨wo.heap.size, 4, none⟩ = some (.slice A2 k c2) := fun ob => (hbi.drew.alloc ob).cell 4
                have ef4 := hbi.frozen 4
                go_region_law
                  (refine step_append_row _ (by rfl) (.tmp 46) (.tmp 52) _ (by rfl) (wo.heap.size + 1) 28 5 64 _ Try.underlying26 ex_info rfl (by omega) (.slice A2 k c2) k us.flatten (by rfl) (HOD.out.alloc _) _ _ _ [.int .i64 0, .string ⟨nm.toArray⟩, .int .i64 m, .int .i64 u, .slice none 0 0] (by rfl) (by rfl) (Sits.new _ _ _) (by simp [Value.oneCell']) (by simp only [maxLen]; omega) (by omega) (by simp; omega) ?_; intro v3 w3 hown3 hb3 hg3 hrow3; obtain ⟨A3, c3, rfl, hc3, _⟩ := own_form hown3; have hb4 := hg3.blk (HBD.out.alloc _) n1; have e43 : w3.cell? ⟨wo.heap.size, 4, none⟩ = some (.slice A2 k c2) := hb4.cell 4; have f43 := hb4.frozen 4)
                all_goals
                  have hxd := Ext.drawn wi
                  have hxa := Ext.new wi.drew (.cells #[.int .i64 0, .string ⟨nm.toArray⟩, .int .i64 m, .int .i64 u, .slice none 0 0] 28)
                  have hza : (wi.drew.alloc (.cells #[.int .i64 0, .string ⟨nm.toArray⟩, .int .i64 m, .int .i64 u, .slice none 0 0] 28)).heap.size = wi.heap.size + 1 := by simp
                  have hz3 := hg3.size
                  have hzd : (wi.alloc (.cells #[.int .i64 0, .string ⟨nm.toArray⟩, .int .i64 m, .int .i64 u, .slice none 0 0] 28)).drew.heap.size = wi.heap.size + 1 := by simp
                  have hb5 := hb4.set 4 (.slice A3 (k + 1) c3)
                  have hlo : ∀ x, (Value.slice A2 k c2).ownBlock = some x → wo.heap.size + 1 ≤ x ∧ x < wi.heap.size := fun x e => HOI.out.lt x e
                  have ho5 : (w3.setCell ⟨wo.heap.size, 4, none⟩ (.slice A3 (k + 1) c3)).ownsRow (wo.heap.size + 1) 28 5 (.slice A3 (k + 1) c3) (k + 1) (us ++ [([.int .i64 0, .string ⟨nm.toArray⟩, .int .i64 m, .int .i64 u, .slice none 0 0] : List Value)]).flatten := by
                    rw [List.flatten_append]
                    exact own_only hown3 (Only.rf.set 4 _) (fun e => by have := (hown3.lt _ e).1; omega)
                  have hK3 : KidsI w3 (wo.heap.size + 1) (.slice A3 (k + 1) c3) ((s.take k).map (CL.leafOf l)) us := ((HKI.out.ext hxd).ext hxa).grown hg3 (fun x e => .inr (.inl e)) (hrow3.imp id (fun e x h => by rw [e] at h; injection h with h; omega))
                  have hR3 : RdI w3 (wo.heap.size + 1) (wo.heap.size + 1) (.mk 0 ⟨nm, ⟨m, u⟩⟩ []) [.int .i64 0, .string ⟨nm.toArray⟩, .int .i64 m, .int .i64 u, .slice none 0 0] := RdI.leaf w3 _ _ 0 ⟨nm, ⟨m, u⟩⟩ none 0 HNQ.out
                  have hK4 := hK3.snoc hR3 (by omega) (by omega) (fun x e => by omega)
                  rw [← HLT.out] at hK4
                  have HK5 := Lib.hid (hK4.grown (w' := w3.setCell ⟨wo.heap.size, 4, none⟩ (.slice A3 (k + 1) c3)) (r := some wo.heap.size) (Only.rf.set 4 _) (fun x e => .inl (by injection e; omega)) (.inl rfl))
                  have hbw5 : Ext wo (w3.setCell ⟨wo.heap.size, 4, none⟩ (.slice A3 (k + 1) c3)) := below_only (((hxi.tr hxd).tr hxa).trans (hb3.mono (by omega))) (Only.rf.set 4 _) (Nat.le_refl _) (by omega)
                  have HO5 := Lib.hid ho5
                  have HBW5 := Lib.hid hbw5
                  have HB5 := Lib.hid hb5
                  clear ho5 hown3 hb4 e43 f43 hK3 hR3 hK4 hb5 hbw5 e4 e4' ef4
                  go_wp2
                  exact ⟨⟨k + 1, _, A3, c3, by omega, by go_num, HBW5.out, (by simpa using HB5.out), HO5, HK5, HIR⟩, by simp [intOf]; omega⟩
              · have HB := Lib.hid (HMEM.out (okSet_out hlt2 hz))
                obtain ⟨q0, q1, q2, q3, q4⟩ := bAi.c5
                have f0 := bAi.frozen 0
                have f1 := bAi.frozen 1
                have f2 := bAi.frozen 2
                have f3 := bAi.frozen 3
                have f4 := bAi.frozen 4
                generalize s[k] = z at *
                clear HMEM HAT HGT HO HK HOK hb HKI HOI HIN HLT hbi bA
                by_cases hz0 : z < 0
                · have g2 : decide (z < 0) = true := decide_eq_true hz0
                  clear hz hz0
                  go_wp2
                  (try simp only [Exit.inBlock, Exit.then])
                  refine bodyPost_ret (by simp [results, Try.results41, go_sem, *]; try rfl) rfl ?_
                  exact HBAD.out _ HB.out (below_only HXI.out (((((Only.rf.set 0 _).set 1 _).set 2 _).set 3 _).set 4 _) (by omega) (by omega))
                · have g2 : decide (z < 0) = false := decide_eq_false hz0
                  have g3 : decide (z ≥ (l.length : Int)) = true := by simp; omega
                  clear hz hz0
                  go_wp2
                  (try simp only [Exit.inBlock, Exit.then])
                  refine bodyPost_ret (by simp [results, Try.results41, go_sem, *]; try rfl) rfl ?_
                  exact HBAD.out _ HB.out (below_only HXI.out (((((Only.rf.set 0 _).set 1 _).set 2 _).set 3 _).set 4 _) (by omega) (by omega))
            · obtain rfl : k = s.length := by omega
              rw [List.take_length] at HKI HIN
              have HOK2 := Lib.hid (HAT.out (inR_ok HIN.out hs24))
              obtain ⟨d0, d1, d2, d3, d4⟩ := hbi.c5
              have hdl : (s.map (CL.leafOf l)).length = s.length := by simp
              have hR2 : RdI wi (wo.heap.size + 1) wi.heap.size (CL.groupOf l s) [.int .i64 s.length, .string ⟨#[]⟩, .int .i64 0, .int .i64 0, .slice A2 s.length c2] := by
                have hKK := HKI.out
                have hOO := HOI.out
                rw [← hdl] at hKK hOO
                have h := hKK.node (k := (s.length : Int)) hOO (by unfold maxLen; omega) (Nat.le_refl _)
                rw [hdl] at h; exact h
              have hbo := hb.ext hxi
              have HO2 := Lib.hid (own_ext HO.out hxi)
              have n1 : some rb ≠ (Value.slice A' j c').ownBlock := fun e => by have := (HO.out.lt _ e.symm).1; omega
              have e4 : wi.cell? ⟨rb, 4, none⟩ = some (.slice A' j c') := hbo.cell 4
              have e4' : ∀ ob, (wi.alloc ob).cell? ⟨rb, 4, none⟩ = some (.slice A' j c') := fun ob => (hbo.alloc ob).cell 4
              have f4 := hbo.frozen 4
              have HKO := Lib.hid (HK.out.ext hxi)
              have HBO := Lib.hid hbo
              have HR2 := Lib.hid hR2
              clear hR2 hbi HKI HOI HIN HAT HMEM bAi
              go_wp2_with (at_builtin; refine wpList_append_row _ rfl (.tmp 57) (.tmp 59) _ rfl (rb + 1) 28 5 64 _ Try.underlying26 ex_info rfl (by omega) _ _ _ rfl (HO2.out.alloc _) _ _ _ [.int .i64 s.length, .string ⟨#[]⟩, .int .i64 0, .int .i64 0, .slice A2 s.length c2] rfl rfl (Sits.new _ _ _) (by simp [Value.oneCell']) (by simp only [maxLen]; omega) (by omega) (by simp; omega) ?_; intro v3 w3 hown3 hb3 hg3 hrow3; obtain ⟨A3, c3, rfl, hc3, _⟩ := own_form hown3; have hb4 := hg3.blk (HBO.out.alloc _) n1; have e43 : w3.cell? ⟨rb, 4, none⟩ = some (.slice A' j c') := hb4.cell 4; have f43 := hb4.frozen 4)
              have hxa := Ext.new wi (.cells #[.int .i64 s.length, .string ⟨#[]⟩, .int .i64 0, .int .i64 0, .slice A2 s.length c2] 28)
              have hza : (wi.alloc (.cells #[.int .i64 s.length, .string ⟨#[]⟩, .int .i64 0, .int .i64 0, .slice A2 s.length c2] 28)).heap.size = wi.heap.size + 1 := by simp
              have hz3 := hg3.size
              have hb5 := hb4.set 4 (.slice A3 (j + 1) c3)
              have hlo : ∀ x, (Value.slice A' j c').ownBlock = some x → rb + 1 ≤ x ∧ x < wo.heap.size := fun x e => HO.out.lt x e
              have ho5 : (w3.setCell ⟨rb, 4, none⟩ (.slice A3 (j + 1) c3)).ownsRow (rb + 1) 28 5 (.slice A3 (j + 1) c3) (j + 1) (vs ++ [([.int .i64 s.length, .string ⟨#[]⟩, .int .i64 0, .int .i64 0, .slice A2 s.length c2] : List Value)]).flatten := by
                rw [List.flatten_append]
                exact own_only hown3 (Only.rf.set 4 _) (fun e => by have := (hown3.lt _ e).1; omega)
              have hK3 : KidsI w3 (rb + 1) (.slice A3 (j + 1) c3) ((ss.take j).map (CL.groupOf l)) vs := (HKO.out.ext hxa).grown hg3 (fun x e => .inr (.inl e)) (hrow3.imp id (fun e x h => by rw [e] at h; injection h with h; omega))
              have hR3 := (HR2.out.ext hxa (Nat.le_refl _)).same (Same.grown hg3 (fun x e => .inl (by have := hlo x e; omega)) (by omega))
              have hK4 := hK3.snoc hR3 (by omega) (by omega) (fun x e => by
                rcases hrow3 with e' | e'
                · exact .inl (by have := hlo x (e'.symm.trans e); omega)
                · rw [e'] at e; injection e with e; omega)
              rw [← HGT.out] at hK4
              have HK5 := Lib.hid (hK4.grown (w' := w3.setCell ⟨rb, 4, none⟩ (.slice A3 (j + 1) c3)) (r := some rb) (Only.rf.set 4 _) (fun x e => .inl (by injection e; omega)) (.inl rfl))
              have hbw5 : Below rb W (w3.setCell ⟨rb, 4, none⟩ (.slice A3 (j + 1) c3)) := below_only (((hbw.trans (hxi.mono (by omega))).trans (hxa.mono (by omega))).trans (hb3.mono (by omega))) (Only.rf.set 4 _) (Nat.le_refl _) (by omega)
              have HO5 := Lib.hid ho5
              have HBW5 := Lib.hid hbw5
              have HB5 := Lib.hid hb5
              clear ho5 hown3 hb4 e43 f43 hK3 hR3 hK4 hb5 hbw5 e4 e4' f4
              go_wp2
              exact ⟨⟨j + 1, _, A3, c3, by omega, by go_num, HBW5.out, (by simpa using HB5.out), HO5, HK5, HOK2⟩, by simp [intOf]; omega⟩
      · obtain rfl : j = ss.length := by omega
        rw [List.take_length] at HK HOK
        obtain ⟨x0, x1, x2, x3, x4⟩ := hb.c5
        have hdl : (ss.map (CL.groupOf l)).length = ss.length := by simp
        have hR2 : RdI wo (rb + 1) wo.heap.size (CL.setsEx l ss) [.int .i64 1, .string ⟨#[]⟩, .int .i64 0, .int .i64 0, .slice A' ss.length c'] := by
          have hKK := HK.out
          have hOO := HO.out
          rw [← hdl] at hKK hOO
          have h := hKK.node (k := 1) hOO (by unfold maxLen; omega) (Nat.le_refl _)
          rw [hdl] at h; exact h
        have HR2 := Lib.hid hR2
        have hvc := request.ValidExpr_c (CL.setsEx l ss) wo wo.heap.size _ hR2.rd (Nat.le_refl _)
        have HEQ := Lib.hid (CL.fromOK_end hss24 HOK.out)
        clear hR2 HK HO HOK HN HA HD
        cases hv : CL.valid (CL.setsEx l ss)
        · rw [hv] at hvc HEQ
          have HVC := Lib.hid hvc
          clear hvc hv
          go_wp2_with (go_at_call 44; (with_reducible refine HVC.out.mono ?_); rintro r wv ⟨rfl, hxv⟩; have bAv := bA.ext hxv; obtain ⟨q0, q1, q2, q3, q4⟩ := bAv.c5; have f0 := bAv.frozen 0; have f1 := bAv.frozen 1; have f2 := bAv.frozen 2; have f3 := bAv.frozen 3; have f4 := bAv.frozen 4; have hzv := hxv.size)
          (try simp only [Exit.inBlock, Exit.then])
          refine bodyPost_ret (by simp [results, Try.results41, go_sem, *]; try rfl) rfl ?_
          exact HBAD.out _ HEQ.out (below_only (HXO.out.tr hxv) (((((Only.rf.set 0 _).set 1 _).set 2 _).set 3 _).set 4 _) (by omega) (by omega))
        · rw [hv] at hvc HEQ
          have HVC := Lib.hid hvc
          clear hvc hv
          go_wp2_with (go_at_call 44; (with_reducible refine HVC.out.mono ?_); rintro r wv ⟨rfl, hxv⟩; have bAv := bA.ext hxv; obtain ⟨q0, q1, q2, q3, q4⟩ := bAv.c5; have f0 := bAv.frozen 0; have f1 := bAv.frozen 1; have f2 := bAv.frozen 2; have f3 := bAv.frozen 3; have f4 := bAv.frozen 4; obtain ⟨y0, y1, y2, y3, y4⟩ := (hb.ext hxv).c5; have hzv := hxv.size)
          have hR3 := (HR2.out.ext hxv (Nat.le_refl _)).wide (Nat.le_refl _) hzv
          have HP := Lib.hid (FromPost.yes (w := w) (p := w.heap.size) (v0 := .int .i64 1) (v1 := .string ⟨#[]⟩) (v2 := .int .i64 0) (v3 := .int .i64 0) (v4 := .slice A' ss.length c') HEQ.out hR3 (Nat.le_refl _) (by omega) (HXO.out.tr hxv))
          (try simp only [Exit.inBlock, Exit.then])
          refine bodyPost_ret (by simp [results, Try.results41, go_sem, *]; try rfl) rfl ?_
          exact HP.out
set_option maxHeartbeats 12800000 in
theorem RFromSets_c (l : List CL.At) (ss : List (List Int)) (A D : Option Addr) (c d : Nat) (w : World) (hl : l.length ≤ maxLen) (hss : ss.length ≤ maxLen) (hn : ∀ a ∈ l, a.n.length ≤ maxLen) (hA : Sits w A (ats l)) (hD : MatS w D ss) :
    Calls Try.prog 42 #[.slice A l.length c, .slice D ss.length d] w (FromPost l ss w) := by
  unfold maxLen at hl hss
  obtain ⟨hbA, hbB, hxW⟩ := boxE2 w #[.int .i64 0, .string ⟨#[]⟩, .int .i64 0, .int .i64 0, .slice none 0 0] 28 #[.int .i64 1, .string ⟨#[]⟩, .int .i64 0, .int .i64 0, .slice none 0 0] 28
  by_cases hlong : 24 < ss.length
  · have g0 : decide ((ss.length : Int) > 24) = true := by simp; omega
    have HP := Lib.hid (fun (w' : World) (hx : Ext w w') => FromPost.no (w := w) (w' := w') (CL.fromOK_long (l := l) hlong) hx)
    go_enter Try.func42, Try.ntmps42
    go_wp2
    (try simp only [Exit.inBlock, Exit.then])
    refine bodyPost_ret (by simp [results, Try.results42, go_sem, *]; try rfl) rfl ?_
    exact HP.out _ (by go_grown)
  · have g0 : decide ((ss.length : Int) > 24) = false := by simp; omega
    have hss24 : ss.length ≤ 24 := by omega
    have HBAD := Lib.hid (fun (w' : World) (hb : CL.fromOK l ss = false) (hx : Ext w w') => FromPost.no (w := w) (w' := w') hb hx)
    have HN := Lib.hid hn
    clear hlong hn
    go_enter Try.func42, Try.ntmps42
    go_wp2
    have hzW : ((w.alloc (.cells #[.int .i64 0, .string ⟨#[]⟩, .int .i64 0, .int .i64 0, .slice none 0 0] 28)).alloc (.cells #[.int .i64 1, .string ⟨#[]⟩, .int .i64 0, .int .i64 0, .slice none 0 0] 28)).heap.size = w.heap.size + 1 + 1 := by simp
    generalize ((w.alloc (.cells #[.int .i64 0, .string ⟨#[]⟩, .int .i64 0, .int .i64 0, .slice none 0 0] 28)).alloc (.cells #[.int .i64 1, .string ⟨#[]⟩, .int .i64 0, .int .i64 0, .slice none 0 0] 28)) = W at *
    have hrb : w.heap.size + 1 = w.heap.size + 1 := rfl
    generalize hR : w.heap.size + 1 = rb at *
    have HA := Lib.hid hA
    have HD := Lib.hid hD
    clear hA hD
    go_loopw [7] (fun i wr => ∃ (j : Nat) (vs : List (List Value)) (A' : Option Addr) (c' : Nat), j ≤ ss.length ∧ i = .int .i64 j ∧ Below rb W wr ∧ Blk wr rb 28 #[.int .i64 1, .string ⟨#[]⟩, .int .i64 0, .int .i64 0, .slice A' j c'] ∧
      Hid (wr.ownsRow (rb + 1) 28 5 (.slice A' j c') j vs.flatten) ∧ Hid (KidsI wr (rb + 1) (.slice A' j c') ((ss.take j).map (CL.groupOf l)) vs) ∧ Hid ((ss.take j).all (CL.okSet l) = true)) (fun i _ => ss.length - (intOf i).toNat)
    case atStart => exact ⟨0, [], none, 0, by omega, rfl, Below.refl _ _, hbB, Lib.hid ⟨rfl, .inl ⟨rfl, rfl⟩⟩, Lib.hid (by simpa using KidsI.nil _ _ _), Lib.hid (by simp)⟩
    case round =>
      obtain ⟨j, vs, A', c', hj, rfl, hbw, hb, HO, HK, HOK⟩ := hrel
      obtain ⟨wo, rfl⟩ : ∃ wo : World, wo = wr := ⟨_, rfl⟩
      have hbl := hb.lt
      have hszr := hbw.size
      have hxo : Ext w wo := hxW.trans (hbw.mono (by omega))
      have HXO := Lib.hid hxo
      have bA := hbA.below hbw (by omega)
      clear hxo
      by_cases hlt : j < ss.length
      · obtain ⟨b1, o1, Ai, ci, hDe, hc1, hlen1, hS1⟩ := (HD.out.ext HXO.out).get hlt
        have HGT := Lib.hid (groups_take (l := l) hlt)
        have HAT := Lib.hid (fun hs => all_take hlt HOK.out hs)
        have HMEM := Lib.hid (fun h => CL.fromOK_bad (l := l) (List.getElem_mem hlt) h)
        generalize ss[j] = s at *
        subst hDe
        have hji : (j : Int) < (ss.length : Int) := by omega
        unfold maxLen at hlen1
        by_cases hlong1 : 24 < s.length
        · have g1 : decide ((s.length : Int) > 24) = true := by simp; omega
          have HB := Lib.hid (HMEM.out (CL.okSet_long hlong1))
          obtain ⟨q0, q1, q2, q3, q4⟩ := bA.c5
          have f0 := bA.frozen 0
          have f1 := bA.frozen 1
          have f2 := bA.frozen 2
          have f3 := bA.frozen 3
          have f4 := bA.frozen 4
          clear hlong1 HMEM HAT HGT HO HK HOK hS1 hb
          go_wp2
          (try simp only [Exit.inBlock, Exit.then])
          refine bodyPost_ret (by simp [results, Try.results42, go_sem, *]; try rfl) rfl ?_
          exact HBAD.out _ HB.out (below_only HXO.out (((((Only.rf.set 0 _).set 1 _).set 2 _).set 3 _).set 4 _) (by omega) (by omega))
        · have g1 : decide ((s.length : Int) > 24) = false := by simp; omega
          have hs24 : s.length ≤ 24 := by omega
          have HS1 := Lib.hid hS1
          clear hlong1 hS1
          go_wp2
          have hbG := Blk.new wo 28 #[.int .i64 s.length, .string ⟨#[]⟩, .int .i64 0, .int .i64 0, .slice none 0 0]
          have hxG := Ext.new wo (.cells #[.int .i64 s.length, .string ⟨#[]⟩, .int .i64 0, .int .i64 0, .slice none 0 0] 28)
          have hzG : (wo.alloc (.cells #[.int .i64 s.length, .string ⟨#[]⟩, .int .i64 0, .int .i64 0, .slice none 0 0] 28)).heap.size = wo.heap.size + 1 := by simp
          generalize (wo.alloc (.cells #[.int .i64 s.length, .string ⟨#[]⟩, .int .i64 0, .int .i64 0, .slice none 0 0] 28)) = W1 at *
          go_loopw [9] (fun i wi => ∃ (k : Nat) (us : List (List Value)) (A2 : Option Addr) (c2 : Nat), k ≤ s.length ∧ i = .int .i64 k ∧ Ext wo wi ∧ Blk wi wo.heap.size 28 #[.int .i64 s.length, .string ⟨#[]⟩, .int .i64 0, .int .i64 0, .slice A2 k c2] ∧
            Hid (wi.ownsRow (wo.heap.size + 1) 28 5 (.slice A2 k c2) k us.flatten) ∧ Hid (KidsI wi (wo.heap.size + 1) (.slice A2 k c2) ((s.take k).map (CL.leafOf l)) us) ∧ Hid (InR l (s.take k))) (fun i _ => s.length - (intOf i).toNat)
          case atStart => exact ⟨0, [], none, 0, by omega, rfl, hxG, hbG, Lib.hid ⟨rfl, .inl ⟨rfl, rfl⟩⟩, Lib.hid (by simpa using KidsI.nil _ _ _), Lib.hid (fun z hz => by simp at hz)⟩
          case round =>
            obtain ⟨k, us, A2, c2, hk, rfl, hxi, hbi, HOI, HKI, HIN⟩ := hrel
            obtain ⟨wi, rfl⟩ : ∃ wi : World, wi = wr := ⟨_, rfl⟩
            have hzi := hxi.size
            have hgi := hbi.lt
            have hc1' := hxi.cell hc1
            have HXI := Lib.hid (HXO.out.tr hxi)
            have bAi := bA.ext hxi
            by_cases hlt2 : k < s.length
            · obtain ⟨b2, o2, hAe, hc2⟩ := sits_int9 (HS1.out.ext hxi) hlt2
              subst hAe
              have hki : (k : Int) < (s.length : Int) := by omega
              have HLT := Lib.hid (leafs_take (l := l) hlt2)
              by_cases hz : 0 ≤ s[k] ∧ s[k] < (l.length : Int)
              · have HIR := Lib.hid (inR_take hlt2 HIN.out hz)
                obtain ⟨q, hq⟩ := Int.eq_ofNat_of_zero_le hz.1
                rw [hq] at hc2 HLT hz
                have hql : q < l.length := by omega
                obtain ⟨b3, o3, hAe3, a0, a1, a2⟩ := (HA.out.ext HXI.out).atoms hql
                subst hAe3
                rw [leaf_at hql] at HLT
                have HNQ := Lib.hid (HN.out _ (List.getElem_mem hql))
                generalize l[q] = at' at *
                obtain ⟨nm, m, u⟩ := at'
                have g2 : decide ((q : Int) < 0) = false := decide_eq_false (by omega)
                have g3 : decide ((q : Int) ≥ (l.length : Int)) = false := by simp; omega
                have hqi : (q : Int) < (l.length : Int) := by omega
                clear hq hz
                simp only at a0 a1 a2
                go_wp2_with fail
                have n1 : some wo.heap.size ≠ (Value.slice A2 k c2).ownBlock := fun e => by have := (HOI.out.lt _ e.symm).1; omega
                have HOD := Lib.hid (own_drew HOI.out)
                have HBD := Lib.hid hbi.drew
                have e4 := hbi.cell 4
                have e4' : ∀ ob, (wi.drew.alloc ob).cell? ⟨wo.heap.size, 4, none⟩ = some (.slice A2 k c2) := fun ob => (hbi.drew.alloc ob).cell 4
                have ef4 := hbi.frozen 4
                go_region_law
                  (refine step_append_row _ (by rfl) (.tmp 61) (.tmp 67) _ (by rfl) (wo.heap.size + 1) 28 5 64 _ Try.underlying26 ex_info rfl (by omega) (.slice A2 k c2) k us.flatten (by rfl) (HOD.out.alloc _) _ _ _ [.int .i64 0, .string ⟨nm.toArray⟩, .int .i64 m, .int .i64 u, .slice none 0 0] (by rfl) (by rfl) (Sits.new _ _ _) (by simp [Value.oneCell']) (by simp only [maxLen]; omega) (by omega) (by simp; omega) ?_; intro v3 w3 hown3 hb3 hg3 hrow3; obtain ⟨A3, c3, rfl, hc3, _⟩ := own_form hown3; have hb4 := hg3.blk (HBD.out.alloc _) n1; have e43 : w3.cell? ⟨wo.heap.size, 4, none⟩ = some (.slice A2 k c2) := hb4.cell 4; have f43 := hb4.frozen 4)
                all_goals
                  have hxd := Ext.drawn wi
                  have hxa := Ext.new wi.drew (.cells #[.int .i64 0, .string ⟨nm.toArray⟩, .int .i64 m, .int .i64 u, .slice none 0 0] 28)
                  have hza : (wi.drew.alloc (.cells #[.int .i64 0, .string ⟨nm.toArray⟩, .int .i64 m, .int .i64 u, .slice none 0 0] 28)).heap.size = wi.heap.size + 1 := by simp
                  have hz3 := hg3.size
                  have hzd : (wi.alloc (.cells #[.int .i64 0, .string ⟨nm.toArray⟩, .int .i64 m, .int .i64 u, .slice none 0 0] 28)).drew.heap.size = wi.heap.size + 1 := by simp
                  have hb5 := hb4.set 4 (.slice A3 (k + 1) c3)
                  have hlo : ∀ x, (Value.slice A2 k c2).ownBlock = some x → wo.heap.size + 1 ≤ x ∧ x < wi.heap.size := fun x e => HOI.out.lt x e
                  have ho5 : (w3.setCell ⟨wo.heap.size, 4, none⟩ (.slice A3 (k + 1) c3)).ownsRow (wo.heap.size + 1) 28 5 (.slice A3 (k + 1) c3) (k + 1) (us ++ [([.int .i64 0, .string ⟨nm.toArray⟩, .int .i64 m, .int .i64 u, .slice none 0 0] : List Value)]).flatten := by
                    rw [List.flatten_append]
                    exact own_only hown3 (Only.rf.set 4 _) (fun e => by have := (hown3.lt _ e).1; omega)
                  have hK3 : KidsI w3 (wo.heap.size + 1) (.slice A3 (k + 1) c3) ((s.take k).map (CL.leafOf l)) us := ((HKI.out.ext hxd).ext hxa).grown hg3 (fun x e => .inr (.inl e)) (hrow3.imp id (fun e x h => by rw [e] at h; injection h with h; omega))
                  have hR3 : RdI w3 (wo.heap.size + 1) (wo.heap.size + 1) (.mk 0 ⟨nm, ⟨m, u⟩⟩ []) [.int .i64 0, .string ⟨nm.toArray⟩, .int .i64 m, .int .i64 u, .slice none 0 0] := RdI.leaf w3 _ _ 0 ⟨nm, ⟨m, u⟩⟩ none 0 HNQ.out
                  have hK4 := hK3.snoc hR3 (by omega) (by omega) (fun x e => by omega)
                  rw [← HLT.out] at hK4
                  have HK5 := Lib.hid (hK4.grown (w' := w3.setCell ⟨wo.heap.size, 4, none⟩ (.slice A3 (k + 1) c3)) (r := some wo.heap.size) (Only.rf.set 4 _) (fun x e => .inl (by injection e; omega)) (.inl rfl))
                  have hbw5 : Ext wo (w3.setCell ⟨wo.heap.size, 4, none⟩ (.slice A3 (k + 1) c3)) := below_only (((hxi.tr hxd).tr hxa).trans (hb3.mono (by omega))) (Only.rf.set 4 _) (Nat.le_refl _) (by omega)
                  have HO5 := Lib.hid ho5
                  have HBW5 := Lib.hid hbw5
                  have HB5 := Lib.hid hb5
                  clear ho5 hown3 hb4 e43 f43 hK3 hR3 hK4 hb5 hbw5 e4 e4' ef4
                  go_wp2
                  exact ⟨⟨k + 1, _, A3, c3, by omega, by go_num, HBW5.out, (by simpa using HB5.out), HO5, HK5, HIR⟩, by simp [intOf]; omega⟩
              · have HB := Lib.hid (HMEM.out (okSet_out hlt2 hz))
                obtain ⟨q0, q1, q2, q3, q4⟩ := bAi.c5
                have f0 := bAi.frozen 0
                have f1 := bAi.frozen 1
                have f2 := bAi.frozen 2
                have f3 := bAi.frozen 3
                have f4 := bAi.frozen 4
                generalize s[k] = z at *
                clear HMEM HAT HGT HO HK HOK hb HKI HOI HIN HLT hbi bA
                by_cases hz0 : z < 0
                · have g2 : decide (z < 0) = true := decide_eq_true hz0
                  clear hz hz0
                  go_wp2
                  (try simp only [Exit.inBlock, Exit.then])
                  refine bodyPost_ret (by simp [results, Try.results42, go_sem, *]; try rfl) rfl ?_
                  exact HBAD.out _ HB.out (below_only HXI.out (((((Only.rf.set 0 _).set 1 _).set 2 _).set 3 _).set 4 _) (by omega) (by omega))
                · have g2 : decide (z < 0) = false := decide_eq_false hz0
                  have g3 : decide (z ≥ (l.length : Int)) = true := by simp; omega
                  clear hz hz0
                  go_wp2
                  (try simp only [Exit.inBlock, Exit.then])
                  refine bodyPost_ret (by simp [results, Try.results42, go_sem, *]; try rfl) rfl ?_
                  exact HBAD.out _ HB.out (below_only HXI.out (((((Only.rf.set 0 _).set 1 _).set 2 _).set 3 _).set 4 _) (by omega) (by omega))
            · obtain rfl : k = s.length := by omega
              rw [List.take_length] at HKI HIN
              have HOK2 := Lib.hid (HAT.out (inR_ok HIN.out hs24))
              obtain ⟨d0, d1, d2, d3, d4⟩ := hbi.c5
              have hdl : (s.map (CL.leafOf l)).length = s.length := by simp
              have hR2 : RdI wi (wo.heap.size + 1) wi.heap.size (CL.groupOf l s) [.int .i64 s.length, .string ⟨#[]⟩, .int .i64 0, .int .i64 0, .slice A2 s.length c2] := by
                have hKK := HKI.out
                have hOO := HOI.out
                rw [← hdl] at hKK hOO
                have h := hKK.node (k := (s.length : Int)) hOO (by unfold maxLen; omega) (Nat.le_refl _)
                rw [hdl] at h; exact h
              have hbo := hb.ext hxi
              have HO2 := Lib.hid (own_ext HO.out hxi)
              have n1 : some rb ≠ (Value.slice A' j c').ownBlock := fun e => by have := (HO.out.lt _ e.symm).1; omega
              have e4 : wi.cell? ⟨rb, 4, none⟩ = some (.slice A' j c') := hbo.cell 4
              have e4' : ∀ ob, (wi.alloc ob).cell? ⟨rb, 4, none⟩ = some (.slice A' j c') := fun ob => (hbo.alloc ob).cell 4
              have f4 := hbo.frozen 4
              have HKO := Lib.hid (HK.out.ext hxi)
              have HBO := Lib.hid hbo
              have HR2 := Lib.hid hR2
              clear hR2 hbi HKI HOI HIN HAT HMEM bAi
              go_wp2_with (at_builtin; refine wpList_append_row _ rfl (.tmp 71) (.tmp 73) _ rfl (rb + 1) 28 5 64 _ Try.underlying26 ex_info rfl (by omega) _ _ _ rfl (HO2.out.alloc _) _ _ _ [.int .i64 s.length, .string ⟨#[]⟩, .int .i64 0, .int .i64 0, .slice A2 s.length c2] rfl rfl (Sits.new _ _ _) (by simp [Value.oneCell']) (by simp only [maxLen]; omega) (by omega) (by simp; omega) ?_; intro v3 w3 hown3 hb3 hg3 hrow3; obtain ⟨A3, c3, rfl, hc3, _⟩ := own_form hown3; have hb4 := hg3.blk (HBO.out.alloc _) n1; have e43 : w3.cell? ⟨rb, 4, none⟩ = some (.slice A' j c') := hb4.cell 4; have f43 := hb4.frozen 4)
              have hxa := Ext.new wi (.cells #[.int .i64 s.length, .string ⟨#[]⟩, .int .i64 0, .int .i64 0, .slice A2 s.length c2] 28)
              have hza : (wi.alloc (.cells #[.int .i64 s.length, .string ⟨#[]⟩, .int .i64 0, .int .i64 0, .slice A2 s.length c2] 28)).heap.size = wi.heap.size + 1 := by simp
              have hz3 := hg3.size
              have hb5 := hb4.set 4 (.slice A3 (j + 1) c3)
              have hlo : ∀ x, (Value.slice A' j c').ownBlock = some x → rb + 1 ≤ x ∧ x < wo.heap.size := fun x e => HO.out.lt x e
              have ho5 : (w3.setCell ⟨rb, 4, none⟩ (.slice A3 (j + 1) c3)).ownsRow (rb + 1) 28 5 (.slice A3 (j + 1) c3) (j + 1) (vs ++ [([.int .i64 s.length, .string ⟨#[]⟩, .int .i64 0, .int .i64 0, .slice A2 s.length c2] : List Value)]).flatten := by
                rw [List.flatten_append]
                exact own_only hown3 (Only.rf.set 4 _) (fun e => by have := (hown3.lt _ e).1; omega)
              have hK3 : KidsI w3 (rb + 1) (.slice A3 (j + 1) c3) ((ss.take j).map (CL.groupOf l)) vs := (HKO.out.ext hxa).grown hg3 (fun x e => .inr (.inl e)) (hrow3.imp id (fun e x h => by rw [e] at h; injection h with h; omega))
              have hR3 := (HR2.out.ext hxa (Nat.le_refl _)).same (Same.grown hg3 (fun x e => .inl (by have := hlo x e; omega)) (by omega))
              have hK4 := hK3.snoc hR3 (by omega) (by omega) (fun x e => by
                rcases hrow3 with e' | e'
                · exact .inl (by have := hlo x (e'.symm.trans e); omega)
                · rw [e'] at e; injection e with e; omega)
              rw [← HGT.out] at hK4
              have HK5 := Lib.hid (hK4.grown (w' := w3.setCell ⟨rb, 4, none⟩ (.slice A3 (j + 1) c3)) (r := some rb) (Only.rf.set 4 _) (fun x e => .inl (by injection e; omega)) (.inl rfl))
              have hbw5 : Below rb W (w3.setCell ⟨rb, 4, none⟩ (.slice A3 (j + 1) c3)) := below_only (((hbw.trans (hxi.mono (by omega))).trans (hxa.mono (by omega))).trans (hb3.mono (by omega))) (Only.rf.set 4 _) (Nat.le_refl _) (by omega)
              have HO5 := Lib.hid ho5
              have HBW5 := Lib.hid hbw5
              have HB5 := Lib.hid hb5
              clear ho5 hown3 hb4 e43 f43 hK3 hR3 hK4 hb5 hbw5 e4 e4' f4
              go_wp2
              exact ⟨⟨j + 1, _, A3, c3, by omega, by go_num, HBW5.out, (by simpa using HB5.out), HO5, HK5, HOK2⟩, by simp [intOf]; omega⟩
      · obtain rfl : j = ss.length := by omega
        rw [List.take_length] at HK HOK
        obtain ⟨x0, x1, x2, x3, x4⟩ := hb.c5
        have hdl : (ss.map (CL.groupOf l)).length = ss.length := by simp
        have hR2 : RdI wo (rb + 1) wo.heap.size (CL.setsEx l ss) [.int .i64 1, .string ⟨#[]⟩, .int .i64 0, .int .i64 0, .slice A' ss.length c'] := by
          have hKK := HK.out
          have hOO := HO.out
          rw [← hdl] at hKK hOO
          have h := hKK.node (k := 1) hOO (by unfold maxLen; omega) (Nat.le_refl _)
          rw [hdl] at h; exact h
        have HR2 := Lib.hid hR2
        have hvc := clusterlocksref07.ValidExpr_c (CL.setsEx l ss) wo wo.heap.size _ hR2.rd (Nat.le_refl _)
        have HEQ := Lib.hid (CL.fromOK_end hss24 HOK.out)
        clear hR2 HK HO HOK HN HA HD
        cases hv : CL.valid (CL.setsEx l ss)
        · rw [hv] at hvc HEQ
          have HVC := Lib.hid hvc
          clear hvc hv
          go_wp2_with (go_at_call 21; (with_reducible refine HVC.out.mono ?_); rintro r wv ⟨rfl, hxv⟩; have bAv := bA.ext hxv; obtain ⟨q0, q1, q2, q3, q4⟩ := bAv.c5; have f0 := bAv.frozen 0; have f1 := bAv.frozen 1; have f2 := bAv.frozen 2; have f3 := bAv.frozen 3; have f4 := bAv.frozen 4; have hzv := hxv.size)
          (try simp only [Exit.inBlock, Exit.then])
          refine bodyPost_ret (by simp [results, Try.results42, go_sem, *]; try rfl) rfl ?_
          exact HBAD.out _ HEQ.out (below_only (HXO.out.tr hxv) (((((Only.rf.set 0 _).set 1 _).set 2 _).set 3 _).set 4 _) (by omega) (by omega))
        · rw [hv] at hvc HEQ
          have HVC := Lib.hid hvc
          clear hvc hv
          go_wp2_with (go_at_call 21; (with_reducible refine HVC.out.mono ?_); rintro r wv ⟨rfl, hxv⟩; have bAv := bA.ext hxv; obtain ⟨q0, q1, q2, q3, q4⟩ := bAv.c5; have f0 := bAv.frozen 0; have f1 := bAv.frozen 1; have f2 := bAv.frozen 2; have f3 := bAv.frozen 3; have f4 := bAv.frozen 4; obtain ⟨y0, y1, y2, y3, y4⟩ := (hb.ext hxv).c5; have hzv := hxv.size)
          have hR3 := (HR2.out.ext hxv (Nat.le_refl _)).wide (Nat.le_refl _) hzv
          have HP := Lib.hid (FromPost.yes (w := w) (p := w.heap.size) (v0 := .int .i64 1) (v1 := .string ⟨#[]⟩) (v2 := .int .i64 0) (v3 := .int .i64 0) (v4 := .slice A' ss.length c') HEQ.out hR3 (Nat.le_refl _) (by omega) (HXO.out.tr hxv))
          (try simp only [Exit.inBlock, Exit.then])
          refine bodyPost_ret (by simp [results, Try.results42, go_sem, *]; try rfl) rfl ?_
          exact HP.out
end Go.Proofs.Ytmolffigeobnnaa
