
/- Ledger: the walk of the reference's Drop. -/
import Derived.Test.YtaebindbadfaaaaLda
import Derived.Test.YtaebindbadfaaaaLra
namespace Go.Proofs.Ytaebindbadfaaaa
open Go.RowKit
set_option linter.unusedVariables false
set_option linter.unusedSimpArgs false
theorem own_emptyK (W : World) (base : Nat) (E : TypeId) (sz : Nat) (hb : base ≤ W.heap.size) : (W.alloc (.cells #[] E)).ownsRow base E sz (.slice (some ⟨W.heap.size, 0, none⟩) 0 0) 0 [] :=
  ⟨by simp, .inr ⟨W.heap.size, 0, #[], rfl, hb, heap_alloc_new W _, Nat.le_refl _, by simp [maxLen], by simp, by simp⟩⟩
theorem RValid_l (x : CL.Lg) (A : Option Addr) (n c : Nat) (A' : Option Addr) (n' c' : Nat) (w : World) (hn : n = x.es.length) (hn' : n' = x.ss.length) (h1 : Sits w A (ens x.es)) (h2 : Sits w A' (svl x.ss)) (h3 : n ≤ c) (h4 : n' ≤ c') (hf : Fine x) :
    Calls Try.prog 33 #[.agg #[.slice A n c, .slice A' n' c']] w fun r w' => r = .returned (.bool (CL.lval x)) ∧ Ext w w' := by
  subst hn hn'
  exact clusterlocksref14.Valid_c x _ w ⟨A, c, A', c', rfl, h1, h2, h3, h4⟩ hf
set_option maxHeartbeats 6400000 in
set_option maxRecDepth 100000 in
theorem clusterlocksref14.Drop_c (x : CL.Lg) (nm : List UInt8) (v : Value) (w : World) (hv : LgV w v x) (hf : Fine x) (hs : nm.length ≤ maxLen) :
    Calls Try.prog 40 #[v, .string ⟨nm.toArray⟩] w (DropPost (CL.drp x nm) w) := by
  have hf' := hf
  obtain ⟨A, c, A', c', rfl, h1, h2, h3, h4⟩ := hv
  obtain ⟨k1, k2, k3⟩ := hf
  go_enter Try.func40, Try.ntmps40
  go_wp2_with fail
  obtain ⟨b1, b3, hx0⟩ := two_rows w #[.slice A x.es.length c, .slice A' x.ss.length c'] 31 #[.slice none 0 0, .slice none 0 0] 31
  have hz := hx0.size
  have b3l := b3.lt
  generalize ((w.alloc (.cells #[.slice A x.es.length c, .slice A' x.ss.length c'] 31)).alloc (.cells #[.slice none 0 0, .slice none 0 0] 31)) = W at *
  obtain ⟨e0, e1⟩ := b1.c2
  have VX := Lib.hid (fun W' (h : Ext w W') => RValid_l x A x.es.length c A' x.ss.length c' W' rfl rfl (h1.ext h) (h2.ext h) h3 h4 hf')
  cases hval : CL.lval x
  · have HF := Lib.hid (show CL.drp x nm = (CL.noLg, false) by simp [CL.drp, hval])
    go_wp2_with (go_at_call 33; (with_reducible refine (VX.out _ hx0).mono ?_); rintro r w2 ⟨rfl, hx2⟩; (have bb3 := b3.ext hx2); (obtain ⟨g0, g1⟩ := bb3.c2); (have n0 := bb3.frozen 0); (have n1 := bb3.frozen 1))
    obtain ⟨d0, d1⟩ := (bb3.set2 (.slice none 0 0) (.slice none 0 0)).c2
    refine bodyPost_ret (v := .tuple #[.agg #[.slice none 0 0, .slice none 0 0], .bool false]) (by simp [results, Try.results40, go_sem, d0, d1]) rfl ?_
    unfold DropPost
    rw [HF.out]
    exact ⟨_, rfl, LgOwn.zero _, (((hx0.tr hx2).setCell (p := ⟨w.heap.size + 1, 0, none⟩) (by simp only; omega) _).setCell (p := ⟨w.heap.size + 1, 1, none⟩) (by simp only; omega) _)⟩
  · have HVL := Lib.hid (CL.lval_get hval)
    have HL := CL.lval_len hval
    have hst : w.heap.size ≤ W.heap.size := hz
    go_wp2_with (first
      | (go_at_call 33; (with_reducible refine (VX.out _ hx0).mono ?_); rintro r w2 ⟨rfl, hx2⟩; (have bb1 := b1.ext hx2); (have bb3 := b3.ext hx2); (obtain ⟨a0, a1⟩ := bb1.c2); (obtain ⟨a2, a3⟩ := (bb1.ext (Ext.new w2 (.cells #[] 69))).c2); (have hx2' := hx0.tr hx2); (have hx2n := Ext.new w2 (.cells #[] 69)))
      | (at_builtin; refine wpList_append_sits _ rfl (.tmp 13) (.tmp 15) _ rfl w2.heap.size 69 2 16 _ Try.underlying29 svr_info rfl (by omega) _ 0 [] rfl (own_emptyK _ _ _ _ (Nat.le_refl _)) A' x.ss.length c' (svl x.ss) rfl (by rw [svl_len]) (h2.ext (hx2'.tr hx2n)) (svl_one _) (by unfold maxLen; omega) (by omega) (by simp) ?_; intro v3 w3 ho3 hb3 hg3; (rw [Nat.zero_add, List.nil_append] at ho3); (obtain ⟨A2, c2, rfl, hc2, _⟩ := own_form ho3); (have hx3 : Ext w2 w3 := hx2n.trans hb3); (have hb3x := hx3); (obtain ⟨a4, a5⟩ := (bb1.ext hx3).c2))
      | go_in)
    have bO := Blk.new w3 31 #[.slice none 0 0, .slice A2 x.ss.length c2]
    have hx3n := Ext.new w3 (.cells #[.slice none 0 0, .slice A2 x.ss.length c2] 31)
    replace bb1 := (bb1.ext hb3x).ext hx3n
    replace bb3 := (bb3.ext hb3x).ext hx3n
    have HO2 := Lib.hid (ho3.alloc (.cells #[.slice none 0 0, .slice A2 x.ss.length c2] 31))
    have hx4 := (hx2'.tr hx3).tr hx3n
    have hOw : w2.heap.size ≤ w3.heap.size := hx3.size
    have hbO3 : w.heap.size + 1 < w2.heap.size := Nat.lt_of_lt_of_le b3l hx2.size
    clear ho3 VX
    go_loopw [7] (fun i wr => ∃ (j : Nat) (B : Option Addr) (cb nb : Nat), j ≤ x.es.length ∧ i = .int .i64 j ∧ Blk wr w.heap.size 31 #[.slice A x.es.length c, .slice A' x.ss.length c'] ∧ Blk wr (w.heap.size + 1) 31 #[.slice none 0 0, .slice none 0 0] ∧ Blk wr w3.heap.size 31 #[.slice B nb cb, .slice A2 x.ss.length c2] ∧
      Hid (nb = (CL.others (x.es.take j) nm).length) ∧ Hid (wr.ownsRow w2.heap.size 33 5 (.slice B nb cb) nb (ens (CL.others (x.es.take j) nm))) ∧ Hid (wr.ownsRow w2.heap.size 69 2 (.slice A2 x.ss.length c2) x.ss.length (svl (x.ss.map (CL.les x.es nm j)))) ∧ Ext w wr) (fun i _ => x.es.length - (intOf i).toNat)
    case atStart => exact ⟨0, none, 0, 0, by omega, rfl, bb1, bb3, bO, Lib.hid rfl, Lib.hid (nil_own _ _ _ _), Lib.hid (by rw [show x.ss.map (CL.les x.es nm 0) = x.ss by rw [List.map_congr_left (g := id) (fun v _ => CL.les_zero _ _ v), List.map_id]]; exact HO2.out), hx4⟩
    case round =>
      clear bb1 bb3 bO HO2 hx4
      obtain ⟨j, B, cb, nb, hj, rfl, bb1, bb3, bO, HNB, HE, HS, hx⟩ := hrel
      obtain ⟨a0, a1⟩ := bb1.c2
      obtain ⟨o0, o1⟩ := bO.c2
      have m0 := bO.frozen 0
      have hnb : nb ≤ 64 := by have h1 := HNB.out; have h2 := CL.others_le (x.es.take j) nm; rw [List.length_take] at h2; omega
      by_cases hlt : j < x.es.length
      · obtain ⟨b, o, rfl, c0, c1', c2', c3, c4⟩ := (h1.ext hx).ens hlt
        have HOS := Lib.hid (CL.others_step (s := nm) hlt)
        have HHIT := Lib.hid (fun h v => CL.les_hit (s := nm) hlt h v)
        have HMISS := Lib.hid (fun h v => CL.les_miss (s := nm) hlt h v)
        generalize hrj : x.es[j] = r0 at *
        have HRJ := Lib.hid hrj
        clear hrj
        by_cases hn : r0.n = nm
        · have hnq : (r0.n == nm) = true := by simp [hn]
          have HN := Lib.hid hn
          clear hn
          go_wp2_with fail
          have HEV := HE
          have HSV := HS
          have hxV := hx
          have b1V := bb1
          have b3V := bb3
          have bO' := bO
          go_loopw [8] (fun k wk => ∃ q : Nat, q ≤ x.ss.length ∧ k = .int .i64 q ∧ Blk wk w.heap.size 31 #[.slice (some ⟨b, o, none⟩) x.es.length c, .slice A' x.ss.length c'] ∧ Blk wk (w.heap.size + 1) 31 #[.slice none 0 0, .slice none 0 0] ∧ Blk wk w3.heap.size 31 #[.slice B nb cb, .slice A2 x.ss.length c2] ∧
            Hid (wk.ownsRow w2.heap.size 33 5 (.slice B nb cb) nb (ens (CL.others (x.es.take j) nm))) ∧ Hid (wk.ownsRow w2.heap.size 69 2 (.slice A2 x.ss.length c2) x.ss.length (svl (CL.mix x.es nm j q x.ss))) ∧ Ext w wk) (fun k _ => x.ss.length - (intOf k).toNat)
          case atStart => exact ⟨0, by omega, rfl, b1V, b3V, bO', HEV, Lib.hid (by rw [CL.mix_zero]; exact HSV.out), hxV⟩
          case round =>
            obtain ⟨q, hq, rfl, b1k, b3k, bOk, HEk, HSk, hxk⟩ := hrel
            obtain ⟨z0, z1⟩ := bOk.c2
            obtain ⟨v0, v1⟩ := b1k.c2
            by_cases hqlt : q < x.ss.length
            · obtain ⟨bs, os, rfl, s0, s1⟩ := (h2.ext hxk).svl hqlt
              obtain ⟨g2, rfl, hg2, cur, hB2⟩ := own_atK HSk.out (by omega)
              have hvt := HVL.out.2.2 q hqlt hqlt
              have hvt2 := hvt.2.2.1
              have hlt2 := CL.les_t (l := x.es) (s := nm) (k := j) hvt2.1 hvt2.2
              clear hvt
              have hml : (CL.mix x.es nm j q x.ss).length = x.ss.length := CL.mix_len _ _ _ _ _
              obtain ⟨bb, oo, ee, r0c, r1c⟩ := (Sits.of_own HSk.out).svl (k := q) (by rw [hml]; exact hqlt)
              injection ee with ee
              injection ee with ee1 ee2
              subst ee1 ee2
              rw [CL.mix_get hqlt] at r0c r1c
              rw [Nat.zero_add] at r0c r1c
              have HMS := Lib.hid (CL.mix_set (l := x.es) (s := nm) (j := j) hqlt)
              have HMM := Lib.hid (fun h => CL.mix_same (l := x.es) (s := nm) (j := j) hqlt h)
              have HST := Lib.hid (fun t => svl_set (l := CL.mix x.es nm j q x.ss) (k := q) (by rw [hml]; exact hqlt) t)
              have HMG := Lib.hid (CL.mix_get (l := x.es) (s := nm) (j := j) hqlt)
              have HH := Lib.hid (HHIT.out HN.out x.ss[q])
              have hxy := Ext.rfl' (a := wr)
              obtain ⟨u0, u1⟩ := b1k.c2
              have hB2' := hB2.ext hxy
              have f1 := hB2'.frozen (q * 2 + 1)
              have hsb : (CL.les x.es nm j x.ss[q]).t - 1 = (CL.les x.es nm j x.ss[q]).t - 1 := rfl
              have HLT2 := Lib.hid hlt2
              have hw1 : IntKind.i64.wrap ((CL.les x.es nm j x.ss[q]).t - 1) = (CL.les x.es nm j x.ss[q]).t - 1 := IntWalk.i64_in _ (by omega)
              by_cases hjt : (j : Int) < x.ss[q].t
              · have HJ := Lib.hid hjt
                go_wp2_with fail
                have hon := (Only.rf (g := g2) (w := wr)).set (q * 2 + 1) (.int .i64 ((CL.les x.es nm j x.ss[q]).t - 1))
                have hne3 : w3.heap.size ≠ g2 := fun e => own_ne HSk.out bOk (by decide) (by rw [e]; rfl)
                refine ⟨⟨q + 1, by omega, by go_num, (b1k.ext hxy).only hon (by omega), (b3k.ext hxy).only hon (by omega), (bOk.ext hxy).only hon hne3, Lib.hid (own_only (own_ext HEk.out hxy) hon (own_ne (own_ext HEk.out hxy) hB2' (by decide))), Lib.hid ?_, (hxk.tr hxy).setCell (p := ⟨g2, q * 2 + 1, none⟩) (by simp only; omega) _⟩, by simp [intOf]; omega⟩
                have h := HST.out ((CL.les x.es nm j x.ss[q]).t - 1)
                rw [← HMS.out, HH.out, if_pos HJ.out]
                rw [show ((CL.mix x.es nm j q x.ss)[q]'(by rw [hml]; exact hqlt)).l = x.ss[q].l by rw [HMG.out]; rfl] at h
                rw [← h]
                exact own_setK (own_ext HSk.out hxy) (by omega) _
              · have hjd : (decide ((j : Int) < x.ss[q].t)) = false := decide_eq_false hjt
                have HJ := Lib.hid hjt
                clear hjt
                go_wp2_with fail
                refine ⟨⟨q + 1, by omega, by go_num, b1k.ext hxy, b3k.ext hxy, bOk.ext hxy, Lib.hid (own_ext HEk.out hxy), Lib.hid ?_, hxk.tr hxy⟩, by simp [intOf]; omega⟩
                rw [HMM.out (HH.out.trans (if_neg HJ.out))]
                exact own_ext HSk.out hxy
            · obtain rfl : q = x.ss.length := by omega
              go_wp2_with fail
              refine ⟨⟨j + 1, B, cb, nb, by omega, by go_num, b1k, b3k, bOk, Lib.hid ?_, Lib.hid ?_, Lib.hid ?_, hxk⟩, by simp [intOf]; omega⟩
              · rw [HOS.out, if_pos HN.out]; exact HNB.out
              · rw [HOS.out, if_pos HN.out]; exact HEk.out
              · rw [← CL.mix_end (Nat.le_refl _)]; exact HSk.out
        · have hnq : (r0.n == nm) = false := beq_eq_false_iff_ne.2 hn
          have HN := Lib.hid hn
          clear hn
          go_wp2_with fail
          have n1 : some w3.heap.size ≠ (Value.slice B nb cb).ownBlock := fun e => own_ne HE.out bO (by decide) e.symm
          have hbl : b < w.heap.size := by
            obtain ⟨b', o', e', d0, _⟩ := h1.ens hlt
            injection e' with e'
            injection e' with e1 e2
            subst e1
            exact World.block_lt_of_cell? _ _ d0
          have nb1 : b ≠ w3.heap.size := by omega
          have nb2 : w.heap.size ≠ w3.heap.size := by omega
          have XC := Ext.new wr (.cells #[.string ⟨r0.n.toArray⟩, .int .i64 r0.b.m, .int .i64 r0.b.u, .int .i64 r0.a.m, .int .i64 r0.a.u] 33)
          have x1 := XC.cell o0
          have x2 : ((wr.alloc (.cells #[.string ⟨r0.n.toArray⟩, .int .i64 r0.b.m, .int .i64 r0.b.u, .int .i64 r0.a.m, .int .i64 r0.a.u] 33)).drew).cell? ⟨w3.heap.size, 0, none⟩ = some (.slice B nb cb) := x1
          go_region_law
            (first
              | (refine step_append_sits _ (by rfl) (.tmp 34) (.tmp 40) _ (by rfl) w2.heap.size 33 5 48 _ Try.underlying28 en_info rfl (by omega) _ _ _ (by rfl) (by first | exact HE.out.alloc _ | exact (HE.out.alloc _).drew | exact HE.out.drew.alloc _) _ _ _ [.string ⟨r0.n.toArray⟩, .int .i64 r0.b.m, .int .i64 r0.b.u, .int .i64 r0.a.m, .int .i64 r0.a.u] (by rfl) (by rfl) (by first | exact Sits.new _ _ _ | exact (Sits.new _ _ _).drew) (ens_one [r0]) (by unfold maxLen; omega) (by omega) (by have := bO.lt; simp; omega) ?_; intro v5 w5 ho5 hb5 hg5; (have hgw : wr.grownBy w5 (Value.slice B nb cb).ownBlock := grown_tr (grown_ext (by first | exact Ext.new _ _ | exact (Ext.new _ _).tr (Ext.drawn _) | exact (Ext.drawn _).tr (Ext.new _ _))) hg5 (.inl rfl)); (have b15 := own_blk HE.out hgw bb1 (by decide)); (have bo5 := own_blk HE.out hgw bO (by decide)); (have b35 := own_blk HE.out hgw bb3 (by decide)); (have os5 := own_apart HE.out HS.out (by decide) hgw); (have hx5 : Ext w w5 := hx.trans (grown_below hgw hx.size (fun g hg => by have := (HE.out.lt g hg).1; omega))); (obtain ⟨B5, c5, rfl, hc5, _⟩ := own_form ho5); (obtain ⟨t0, t1⟩ := bo5.c2); (have n0 := bo5.frozen 0); (obtain ⟨bq, oq, eqq, d0, d1, d2, d3, d4⟩ := (h1.ext hx5).ens hlt); (injection eqq with eqq); (injection eqq with eq1 eq2); (subst eq1 eq2); (rw [HRJ.out] at d0 d1 d2 d3 d4)))
          all_goals
            go_wp2_with fail
            have hon := (Only.rf (g := w3.heap.size) (w := w5)).set 0 (.slice B5 (nb + 1) c5)
            refine ⟨⟨j + 1, B5, c5, nb + 1, by omega, by go_num, b15.only hon (by omega), b35.only hon (by omega), by simpa using bo5.set 0 (.slice B5 (nb + 1) c5), Lib.hid ?_, Lib.hid ?_, Lib.hid ?_, hx5.setCell (p := ⟨w3.heap.size, 0, none⟩) (by simp only; omega) _⟩, by simp [intOf]; omega⟩
            · rw [HOS.out, if_neg HN.out, List.length_append, ← HNB.out]; rfl
            · rw [HOS.out, if_neg HN.out, ens_append]
              exact own_only ho5 hon (own_ne ho5 bo5 (by decide))
            · rw [List.map_congr_left (fun v _ => HMISS.out HN.out v)]
              exact own_only os5 hon (own_ne os5 bo5 (by decide))
      · obtain rfl : j = x.es.length := by omega
        have hnb' := HNB.out
        have hE := HE.out
        have hS := HS.out
        rw [List.take_length] at hnb' hE
        have hSm : x.ss.map (CL.les x.es nm x.es.length) = x.ss.map (CL.less x.es nm) := by
          refine List.map_congr_left (fun v hv => ?_)
          obtain ⟨i, hi, rfl⟩ := List.getElem_of_mem hv
          exact CL.les_end (HVL.out.2.2 i hi hi).2.2.1.2
        rw [hSm] at hS
        obtain ⟨B', cb', hB, hcb, _⟩ := own_form hE
        injection hB with hB1 _ hB2
        subst hB1 hB2
        obtain ⟨y0, y1⟩ := bb3.c2
        have n0 := bb3.frozen 0
        have n1 := bb3.frozen 1
        have HE' := Lib.hid hE
        have HS' := Lib.hid hS
        have HNB' := Lib.hid hnb'
        clear hE hS hnb' hSm
        by_cases hall : nb = x.es.length
        · have hq : ((nb : Int) == (x.es.length : Int)) = true := by simp [hall]
          have HF := Lib.hid (show CL.drp x nm = (CL.noLg, false) by
            unfold CL.drp
            rw [if_pos hval, if_pos (by rw [← HNB'.out]; exact hall)])
          clear hall
          go_wp2_with fail
          obtain ⟨d0, d1⟩ := (bb3.set2 (.slice none 0 0) (.slice none 0 0)).c2
          refine bodyPost_ret (v := .tuple #[.agg #[.slice none 0 0, .slice none 0 0], .bool false]) (by simp [results, Try.results40, go_sem, d0, d1]) rfl ?_
          unfold DropPost
          rw [HF.out]
          exact ⟨_, rfl, LgOwn.zero _, ((hx.setCell (p := ⟨w.heap.size + 1, 0, none⟩) (by simp only; omega) _).setCell (p := ⟨w.heap.size + 1, 1, none⟩) (by simp only; omega) _)⟩
        · have hq : ((nb : Int) == (x.es.length : Int)) = false := beq_eq_false_iff_ne.2 (by omega)
          have HF := Lib.hid (show CL.drp x nm = (⟨CL.others x.es nm, x.ss.map (CL.less x.es nm)⟩, true) by
            unfold CL.drp
            rw [if_pos hval, if_neg (by rw [← HNB'.out]; exact hall)])
          clear hall
          go_wp2_with fail
          obtain ⟨d0, d1⟩ := (bb3.set2 (.slice B nb cb) (.slice A2 x.ss.length c2)).c2
          refine bodyPost_ret (v := .tuple #[.agg #[.slice B nb cb, .slice A2 x.ss.length c2], .bool true]) (by simp [results, Try.results40, go_sem, d0, d1]) rfl ?_
          unfold DropPost
          rw [HF.out]
          have hon := (Only.rf (g := w.heap.size + 1) (w := wr)).set2 (.slice B nb cb) (.slice A2 x.ss.length c2)
          refine ⟨_, rfl, ⟨B, cb, A2, c2, by simp only [List.length_map]; rw [← HNB'.out], ?_, ?_, by simp only; rw [← HNB'.out]; exact hcb, by simp only [List.length_map]; exact hc2⟩, ((hx.setCell (p := ⟨w.heap.size + 1, 0, none⟩) (by simp only; omega) _).setCell (p := ⟨w.heap.size + 1, 1, none⟩) (by simp only; omega) _)⟩
          · simp only
            rw [← HNB'.out]
            exact own_le (own_only HE'.out hon (own_ne HE'.out bb3 (by decide))) (Nat.zero_le _)
          · simp only [List.length_map]
            exact own_le (own_only HS'.out hon (own_ne HS'.out bb3 (by decide))) (Nat.zero_le _)
end Go.Proofs.Ytaebindbadfaaaa
