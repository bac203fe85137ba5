
/- Ledger: the walk of Drop. -/
import Derived.Test.YtaebindbadfaaaaLu
import Derived.IntWalk
namespace Go.Proofs.Ytaebindbadfaaaa
open Go.RowKit
set_option linter.unusedVariables false
set_option linter.unusedSimpArgs false
/-- a cell of a row of the call's own is written -/
theorem own_setK {w : World} {base : Nat} {E : TypeId} {n c g i sz : Nat} {xs : List Value} (h : w.ownsRow base E sz (.slice (some ⟨g, 0, none⟩) n c) n xs) (hi : i < n * sz) (u : Value) : (w.setCell ⟨g, i, none⟩ u).ownsRow base E sz (.slice (some ⟨g, 0, none⟩) n c) n (xs.set i u) := by
  refine ⟨by simpa using h.1, ?_⟩
  rcases h.2 with ⟨e, _⟩ | ⟨g', cap, cur, e, hb, hh, hn, hcap, hcs, ht⟩
  · cases e
  · injection e with e1 e2 e3
    injection e1 with e1
    injection e1 with e1
    subst e1 e3
    refine .inr ⟨g, c, cur.setIfInBounds i u, rfl, hb, ?_, hn, hcap, by simpa using hcs, ?_⟩
    · have hB : Blk w g E cur := hh
      exact hB.set i u
    · rw [Array.toList_setIfInBounds, List.take_set, ht]
theorem own_atK {w : World} {base : Nat} {E : TypeId} {n c sz : Nat} {A : Option Addr} {xs : List Value} (h : w.ownsRow base E sz (.slice A n c) n xs) (hn : 0 < n) : ∃ g, A = some ⟨g, 0, none⟩ ∧ base ≤ g ∧ ∃ cur, Blk w g E cur := by
  rcases h.2 with ⟨e, hz⟩ | ⟨g', cap, cur, e, hb, hh, _⟩
  · omega
  · injection e with e1 e2 e3
    exact ⟨g', e1, hb, cur, hh⟩
theorem svl_get {l : List CL.Sv} {k : Nat} (h : k < l.length) : (svl l)[k * 2]? = some (.int .i64 l[k].l) ∧ (svl l)[k * 2 + 1]? = some (.int .i64 l[k].t) :=
  ⟨fm_get (c := svc) (sz := 2) (fun _ => rfl) h 0 (by omega), fm_get (c := svc) (sz := 2) (fun _ => rfl) h 1 (by omega)⟩
theorem svl_set {l : List CL.Sv} {k : Nat} (h : k < l.length) (t : Int) : (svl l).set (k * 2 + 1) (.int .i64 t) = svl (l.set k ⟨l[k].l, t⟩) := by
  induction l generalizing k with
  | nil => simp at h
  | cons a l ih =>
    cases k with
    | zero => rfl
    | succ k =>
      have := ih (k := k) (by simpa using h)
      simp only [svl, List.flatMap_cons, svc, List.cons_append, List.nil_append, List.set_cons_succ, List.getElem_cons_succ] at this ⊢
      rw [show (k + 1) * 2 = (k * 2 + 1) + 1 by omega]
      simp only [List.set_cons_succ]
      rw [this]
def DropPost (y : CL.Lg × Bool) (w : World) (r : Ending) (w' : World) : Prop := ∃ v, r = .returned (.tuple #[v, .bool y.2]) ∧ LgOwn w' 0 v y.1 ∧ Ext w w'
set_option maxHeartbeats 6400000 in
set_option maxRecDepth 100000 in
theorem ledger.Drop_c (x : CL.Lg) (nm : List UInt8) (v : Value) (w : World) (hv : LgV w v x) (hf : Fine x) (hs : nm.length ≤ maxLen) :
    Calls Try.prog 39 #[v, .string ⟨nm.toArray⟩] w (DropPost (CL.drp x nm) w) := by
  have hf' := hf
  obtain ⟨A, c, A', c', rfl, h1, h2, h3, h4⟩ := hv
  obtain ⟨k1, k2, k3⟩ := hf
  go_enter Try.func39, Try.ntmps39
  go_wp2_with fail
  obtain ⟨b1, b3, hx0⟩ := two_rows w #[.slice A x.es.length c, .slice A' x.ss.length c'] 31 #[.slice none 0 0, .slice none 0 0] 31
  have hz := hx0.size
  have b3l := b3.lt
  generalize ((w.alloc (.cells #[.slice A x.es.length c, .slice A' x.ss.length c'] 31)).alloc (.cells #[.slice none 0 0, .slice none 0 0] 31)) = W at *
  obtain ⟨e0, e1⟩ := b1.c2
  have VX := Lib.hid (fun W' (h : Ext w W') => ledger.Valid_l x A x.es.length c A' x.ss.length c' W' rfl rfl (h1.ext h) (h2.ext h) h3 h4 hf')
  cases hval : CL.lval x
  · have HF := Lib.hid (show CL.drp x nm = (CL.noLg, false) by simp [CL.drp, hval])
    go_wp2_with (go_at_call 36; (with_reducible refine (VX.out _ hx0).mono ?_); rintro r w2 ⟨rfl, hx2⟩; (have bb3 := b3.ext hx2); (obtain ⟨g0, g1⟩ := bb3.c2); (have n0 := bb3.frozen 0); (have n1 := bb3.frozen 1))
    obtain ⟨d0, d1⟩ := (bb3.set2 (.slice none 0 0) (.slice none 0 0)).c2
    refine bodyPost_ret (v := .tuple #[.agg #[.slice none 0 0, .slice none 0 0], .bool false]) (by simp [results, Try.results39, go_sem, d0, d1]) rfl ?_
    unfold DropPost
    rw [HF.out]
    exact ⟨_, rfl, LgOwn.zero _, (((hx0.tr hx2).setCell (p := ⟨w.heap.size + 1, 0, none⟩) (by simp only; omega) _).setCell (p := ⟨w.heap.size + 1, 1, none⟩) (by simp only; omega) _)⟩
  · have HVL := Lib.hid (CL.lval_get hval)
    have HL := CL.lval_len hval
    have CX := (fun W' (h : Ext w W') => ledger.cut_c x 0 x.ss.length (.agg #[.slice A x.es.length c, .slice A' x.ss.length c']) W' ⟨A, c, A', c', rfl, h1.ext h, h2.ext h, h3, h4⟩ (by omega) (by omega) (Nat.zero_le _) (Nat.le_refl _))
    simp only [show ((0 : Nat) : Int) = 0 from rfl] at CX
    replace CX := Lib.hid CX
    have hce : (CL.cutL x 0 x.ss.length).es = [] := rfl
    have hcs : (CL.cutL x 0 x.ss.length).ss = x.ss := by simp [CL.cutL]
    go_wp2_with (first
      | (go_at_call 36; (with_reducible refine (VX.out _ hx0).mono ?_); rintro r w2 ⟨rfl, hx2⟩; (have bb1 := b1.ext hx2); (have bb3 := b3.ext hx2); (obtain ⟨a0, a1⟩ := bb1.c2); (have hx2' := hx0.tr hx2))
      | (go_at_call 45; (with_reducible refine (CX.out _ hx2').mono ?_); rintro r w3 ⟨v3, rfl, hl3, hx3⟩; (have hOw : w2.heap.size ≤ w3.heap.size := hx3.size); (obtain ⟨A1, c1, A2, c2, rfl, ho1, ho2, hc1, hc2⟩ := hl3); (rw [hce] at ho1 hc1); (rw [hcs] at ho2 hc2); (simp only [hce, hcs, List.length_nil] at ho1 ⊢);
         (have hx3 := (show Ext _ w3 from hx3).tr (Ext.new w3 (.cells #[.slice A1 0 c1, .slice A2 x.ss.length c2] 31)));
         (have bO := Blk.new w3 31 #[.slice A1 0 c1, .slice A2 x.ss.length c2]);
         (replace ho1 := ho1.alloc (.cells #[.slice A1 0 c1, .slice A2 x.ss.length c2] 31)); (replace ho2 := ho2.alloc (.cells #[.slice A1 0 c1, .slice A2 x.ss.length c2] 31));
         
         (replace bb1 := bb1.ext hx3); (replace bb3 := bb3.ext hx3); (have hx4 := hx2'.tr hx3); (obtain ⟨a0, a1⟩ := bb1.c2))
      | go_in)
    have hbO3 : w.heap.size + 1 < w2.heap.size := Nat.lt_of_lt_of_le b3l hx2.size
    have HO1 := Lib.hid ho1
    have HO2 := Lib.hid ho2
    clear ho1 ho2 CX VX
    go_loopw [23] (fun i wr => ∃ (j : Nat) (B : Option Addr) (cb nb : Nat), j ≤ x.es.length ∧ i = .int .i64 j ∧ Blk wr w.heap.size 31 #[.slice A x.es.length c, .slice A' x.ss.length c'] ∧ Blk wr (w.heap.size + 1) 31 #[.slice none 0 0, .slice none 0 0] ∧ Blk wr w3.heap.size 31 #[.slice B nb cb, .slice A2 x.ss.length c2] ∧
      Hid (nb = (CL.others (x.es.take j) nm).length) ∧ Hid (wr.ownsRow w2.heap.size 33 5 (.slice B nb cb) nb (ens (CL.others (x.es.take j) nm))) ∧ Hid (wr.ownsRow w2.heap.size 69 2 (.slice A2 x.ss.length c2) x.ss.length (svl (x.ss.map (CL.les x.es nm j)))) ∧ Ext w wr) (fun i _ => x.es.length - (intOf i).toNat)
    case atStart => exact ⟨0, A1, c1, 0, by omega, rfl, bb1, bb3, bO, Lib.hid rfl, Lib.hid HO1.out, Lib.hid (by rw [show x.ss.map (CL.les x.es nm 0) = x.ss by rw [List.map_congr_left (g := id) (fun v _ => CL.les_zero _ _ v), List.map_id]]; exact HO2.out), hx4⟩
    case round =>
      clear bb1 bb3 bO HO1 HO2 hx4 hc1
      obtain ⟨j, B, cb, nb, hj, rfl, bb1, bb3, bO, HNB, HE, HS, hx⟩ := hrel
      obtain ⟨a0, a1⟩ := bb1.c2
      obtain ⟨o0, o1⟩ := bO.c2
      have m0 := bO.frozen 0
      have hnb : nb ≤ 64 := by have h1 := HNB.out; have h2 := CL.others_le (x.es.take j) nm; rw [List.length_take] at h2; omega
      by_cases hlt : j < x.es.length
      · obtain ⟨b, o, rfl, c0, c1', c2', c3, c4⟩ := (h1.ext hx).ens hlt
        have HOS := Lib.hid (CL.others_step (s := nm) hlt)
        have HHIT := Lib.hid (fun h v => CL.les_hit (s := nm) hlt h v)
        have HMISS := Lib.hid (fun h v => CL.les_miss (s := nm) hlt h v)
        have bx := Blk.new wr 33 #[.string ⟨x.es[j].n.toArray⟩, .int .i64 x.es[j].b.m, .int .i64 x.es[j].b.u, .int .i64 x.es[j].a.m, .int .i64 x.es[j].a.u]
        have hxx := Ext.new wr (.cells #[.string ⟨x.es[j].n.toArray⟩, .int .i64 x.es[j].b.m, .int .i64 x.es[j].b.u, .int .i64 x.es[j].a.m, .int .i64 x.es[j].a.u] 33)
        generalize hrj : x.es[j] = r0 at *
        have HRJ := Lib.hid hrj
        clear hrj
        have bO' := bO.ext hxx
        obtain ⟨p0, p1⟩ := bO'.c2
        obtain ⟨q0, q1⟩ := (bb1.ext hxx).c2
        by_cases hn : r0.n = nm
        · have hnq : (r0.n == nm) = true := by simp [hn]
          have HN := Lib.hid hn
          clear hn
          go_wp2_with fail
          generalize (wr.alloc (.cells #[.string ⟨r0.n.toArray⟩, .int .i64 r0.b.m, .int .i64 r0.b.u, .int .i64 r0.a.m, .int .i64 r0.a.u] 33)) = V at *
          have HEV := Lib.hid (own_ext HE.out hxx)
          have HSV := Lib.hid (own_ext HS.out hxx)
          have hxV := hx.tr hxx
          have b1V := bb1.ext hxx
          have b3V := bb3.ext hxx
          go_loopw [41] (fun k wk => ∃ q : Nat, q ≤ x.ss.length ∧ k = .int .i64 q ∧ Blk wk w.heap.size 31 #[.slice (some ⟨b, o, none⟩) x.es.length c, .slice A' x.ss.length c'] ∧ Blk wk (w.heap.size + 1) 31 #[.slice none 0 0, .slice none 0 0] ∧ Blk wk w3.heap.size 31 #[.slice B nb cb, .slice A2 x.ss.length c2] ∧
            Hid (wk.ownsRow w2.heap.size 33 5 (.slice B nb cb) nb (ens (CL.others (x.es.take j) nm))) ∧ Hid (wk.ownsRow w2.heap.size 69 2 (.slice A2 x.ss.length c2) x.ss.length (svl (CL.mix x.es nm j q x.ss))) ∧ Ext w wk) (fun k _ => x.ss.length - (intOf k).toNat)
          case atStart => exact ⟨0, by omega, rfl, b1V, b3V, bO', HEV, Lib.hid (by rw [CL.mix_zero]; exact HSV.out), hxV⟩
          case round =>
            obtain ⟨q, hq, rfl, b1k, b3k, bOk, HEk, HSk, hxk⟩ := hrel
            obtain ⟨z0, z1⟩ := bOk.c2
            by_cases hqlt : q < x.ss.length
            · obtain ⟨bs, os, rfl, s0, s1⟩ := (h2.ext hxk).svl hqlt
              obtain ⟨g2, rfl, hg2, cur, hB2⟩ := own_atK HSk.out (by omega)
              have hvt := HVL.out.2.2 q hqlt hqlt
              have hvt2 := hvt.2.2.1
              have hlt2 := CL.les_t (l := x.es) (s := nm) (k := j) hvt2.1 hvt2.2
              clear hvt
              have hml : (CL.mix x.es nm j q x.ss).length = x.ss.length := CL.mix_len _ _ _ _ _
              obtain ⟨bb, oo, ee, r0c, r1c⟩ := (Sits.of_own HSk.out).svl (k := q) (by rw [hml]; exact hqlt)
              injection ee with ee
              injection ee with ee1 ee2
              subst ee1 ee2
              rw [CL.mix_get hqlt] at r0c r1c
              rw [Nat.zero_add] at r0c r1c
              have HMS := Lib.hid (CL.mix_set (l := x.es) (s := nm) (j := j) hqlt)
              have HMM := Lib.hid (fun h => CL.mix_same (l := x.es) (s := nm) (j := j) hqlt h)
              have HST := Lib.hid (fun t => svl_set (l := CL.mix x.es nm j q x.ss) (k := q) (by rw [hml]; exact hqlt) t)
              have HMG := Lib.hid (CL.mix_get (l := x.es) (s := nm) (j := j) hqlt)
              have HH := Lib.hid (HHIT.out HN.out x.ss[q])
              have bx := Blk.new wr 69 #[.int .i64 x.ss[q].l, .int .i64 x.ss[q].t]
              have hxy := Ext.new wr (.cells #[.int .i64 x.ss[q].l, .int .i64 x.ss[q].t] 69)
              have hB2' := hB2.ext hxy
              have f1 := hB2'.frozen (q * 2 + 1)
              obtain ⟨z0, z1⟩ := (bOk.ext hxy).c2
              have r0d := hxy.cell r0c
              have r1d := hxy.cell r1c
              have hsb : (CL.les x.es nm j x.ss[q]).t - 1 = (CL.les x.es nm j x.ss[q]).t - 1 := rfl
              have HLT2 := Lib.hid hlt2
              have hw1 : IntKind.i64.wrap ((CL.les x.es nm j x.ss[q]).t - 1) = (CL.les x.es nm j x.ss[q]).t - 1 := IntWalk.i64_in _ (by omega)
              by_cases hjt : (j : Int) < x.ss[q].t
              · have HJ := Lib.hid hjt
                go_wp2_with fail
                have hon := (Only.rf (g := g2) (w := wr.alloc (.cells #[.int .i64 x.ss[q].l, .int .i64 x.ss[q].t] 69))).set (q * 2 + 1) (.int .i64 ((CL.les x.es nm j x.ss[q]).t - 1))
                have hne3 : w3.heap.size ≠ g2 := fun e => own_ne HSk.out bOk (by decide) (by rw [e]; rfl)
                refine ⟨⟨q + 1, by omega, by go_num, (b1k.ext hxy).only hon (by omega), (b3k.ext hxy).only hon (by omega), (bOk.ext hxy).only hon hne3, Lib.hid (own_only (own_ext HEk.out hxy) hon (own_ne (own_ext HEk.out hxy) hB2' (by decide))), Lib.hid ?_, (hxk.tr hxy).setCell (p := ⟨g2, q * 2 + 1, none⟩) (by simp only; omega) _⟩, by simp [intOf]; omega⟩
                have h := HST.out ((CL.les x.es nm j x.ss[q]).t - 1)
                rw [← HMS.out, HH.out, if_pos HJ.out]
                rw [show ((CL.mix x.es nm j q x.ss)[q]'(by rw [hml]; exact hqlt)).l = x.ss[q].l by rw [HMG.out]; rfl] at h
                rw [← h]
                exact own_setK (own_ext HSk.out hxy) (by omega) _
              · have hjd : (decide ((j : Int) < x.ss[q].t)) = false := decide_eq_false hjt
                have HJ := Lib.hid hjt
                clear hjt
                go_wp2_with fail
                refine ⟨⟨q + 1, by omega, by go_num, b1k.ext hxy, b3k.ext hxy, bOk.ext hxy, Lib.hid (own_ext HEk.out hxy), Lib.hid ?_, hxk.tr hxy⟩, by simp [intOf]; omega⟩
                rw [HMM.out (HH.out.trans (if_neg HJ.out))]
                exact own_ext HSk.out hxy
            · obtain rfl : q = x.ss.length := by omega
              go_wp2_with fail
              refine ⟨⟨j + 1, B, cb, nb, by omega, by go_num, b1k, b3k, bOk, Lib.hid ?_, Lib.hid ?_, Lib.hid ?_, hxk⟩, by simp [intOf]; omega⟩
              · rw [HOS.out, if_pos HN.out]; exact HNB.out
              · rw [HOS.out, if_pos HN.out]; exact HEk.out
              · rw [← CL.mix_end (Nat.le_refl _)]; exact HSk.out
        · have hnq : (r0.n == nm) = false := beq_eq_false_iff_ne.2 hn
          have HN := Lib.hid hn
          clear hn
          go_wp2_with (first
            | (at_builtin; refine wpList_append_sits _ rfl (.tmp 33) (.tmp 35) _ rfl w2.heap.size 33 5 48 _ Try.underlying28 en_info rfl (by omega) _ _ _ rfl ((own_ext HE.out hxx).alloc _) _ _ _ [.string ⟨r0.n.toArray⟩, .int .i64 r0.b.m, .int .i64 r0.b.u, .int .i64 r0.a.m, .int .i64 r0.a.u] rfl rfl (sits_new2 _ _ _ _) (ens_one [r0]) (by unfold maxLen; omega) (by omega) (by have := bO.lt; simp; omega) ?_; intro v5 w5 ho5 hb5 hg5; (have hg5' := hg5); (have bo5 := own_blk ((own_ext HE.out hxx).alloc (.cells #[.string ⟨r0.n.toArray⟩, .int .i64 r0.b.m, .int .i64 r0.b.u, .int .i64 r0.a.m, .int .i64 r0.a.u] 33)) hg5 (bO'.alloc _) (by decide)); (have b15 := own_blk ((own_ext HE.out hxx).alloc (.cells #[.string ⟨r0.n.toArray⟩, .int .i64 r0.b.m, .int .i64 r0.b.u, .int .i64 r0.a.m, .int .i64 r0.a.u] 33)) hg5 ((bb1.ext hxx).alloc _) (by decide)); (have b35 := own_blk ((own_ext HE.out hxx).alloc (.cells #[.string ⟨r0.n.toArray⟩, .int .i64 r0.b.m, .int .i64 r0.b.u, .int .i64 r0.a.m, .int .i64 r0.a.u] 33)) hg5 ((bb3.ext hxx).alloc _) (by decide)); (have os5 := own_apart ((own_ext HE.out hxx).alloc (.cells #[.string ⟨r0.n.toArray⟩, .int .i64 r0.b.m, .int .i64 r0.b.u, .int .i64 r0.a.m, .int .i64 r0.a.u] 33)) ((own_ext HS.out hxx).alloc _) (by decide) hg5); (obtain ⟨B5, c5, rfl, hc5, _⟩ := own_form ho5); (obtain ⟨t0, t1⟩ := bo5.c2); (have n0 := bo5.frozen 0); (have hx5 : Ext w w5 := ((hx.tr hxx).tr (Ext.new _ _)).trans (hb5.mono (by have := hx2'.size; omega))))
            | go_in)
          have hon := (Only.rf (g := w3.heap.size) (w := w5)).set 0 (.slice B5 (nb + 1) c5)
          refine ⟨⟨j + 1, B5, c5, nb + 1, by omega, by go_num, b15.only hon (by omega), b35.only hon (by omega), by simpa using bo5.set 0 (.slice B5 (nb + 1) c5), Lib.hid ?_, Lib.hid ?_, Lib.hid ?_, hx5.setCell (p := ⟨w3.heap.size, 0, none⟩) (by simp only; omega) _⟩, by simp [intOf]; omega⟩
          · rw [HOS.out, if_neg HN.out, List.length_append, ← HNB.out]; rfl
          · rw [HOS.out, if_neg HN.out, ens_append]
            exact own_only ho5 hon (own_ne ho5 bo5 (by decide))
          · rw [List.map_congr_left (fun v _ => HMISS.out HN.out v)]
            exact own_only os5 hon (own_ne os5 bo5 (by decide))
      · obtain rfl : j = x.es.length := by omega
        have hnb' := HNB.out
        have hE := HE.out
        have hS := HS.out
        rw [List.take_length] at hnb' hE
        have hSm : x.ss.map (CL.les x.es nm x.es.length) = x.ss.map (CL.less x.es nm) := by
          refine List.map_congr_left (fun v hv => ?_)
          obtain ⟨i, hi, rfl⟩ := List.getElem_of_mem hv
          exact CL.les_end (HVL.out.2.2 i hi hi).2.2.1.2
        rw [hSm] at hS
        obtain ⟨B', cb', hB, hcb, _⟩ := own_form hE
        injection hB with hB1 _ hB2
        subst hB1 hB2
        obtain ⟨y0, y1⟩ := bb3.c2
        have n0 := bb3.frozen 0
        have n1 := bb3.frozen 1
        have HE' := Lib.hid hE
        have HS' := Lib.hid hS
        have HNB' := Lib.hid hnb'
        clear hE hS hnb' hSm
        by_cases hall : nb = x.es.length
        · have hq : ((nb : Int) == (x.es.length : Int)) = true := by simp [hall]
          have HF := Lib.hid (show CL.drp x nm = (CL.noLg, false) by
            unfold CL.drp
            rw [if_pos hval, if_pos (by rw [← HNB'.out]; exact hall)])
          clear hall
          go_wp2_with fail
          obtain ⟨d0, d1⟩ := (bb3.set2 (.slice none 0 0) (.slice none 0 0)).c2
          refine bodyPost_ret (v := .tuple #[.agg #[.slice none 0 0, .slice none 0 0], .bool false]) (by simp [results, Try.results39, go_sem, d0, d1]) rfl ?_
          unfold DropPost
          rw [HF.out]
          exact ⟨_, rfl, LgOwn.zero _, ((hx.setCell (p := ⟨w.heap.size + 1, 0, none⟩) (by simp only; omega) _).setCell (p := ⟨w.heap.size + 1, 1, none⟩) (by simp only; omega) _)⟩
        · have hq : ((nb : Int) == (x.es.length : Int)) = false := beq_eq_false_iff_ne.2 (by omega)
          have HF := Lib.hid (show CL.drp x nm = (⟨CL.others x.es nm, x.ss.map (CL.less x.es nm)⟩, true) by
            unfold CL.drp
            rw [if_pos hval, if_neg (by rw [← HNB'.out]; exact hall)])
          clear hall
          go_wp2_with fail
          obtain ⟨d0, d1⟩ := (bb3.set2 (.slice B nb cb) (.slice A2 x.ss.length c2)).c2
          refine bodyPost_ret (v := .tuple #[.agg #[.slice B nb cb, .slice A2 x.ss.length c2], .bool true]) (by simp [results, Try.results39, go_sem, d0, d1]) rfl ?_
          unfold DropPost
          rw [HF.out]
          have hon := (Only.rf (g := w.heap.size + 1) (w := wr)).set2 (.slice B nb cb) (.slice A2 x.ss.length c2)
          refine ⟨_, rfl, ⟨B, cb, A2, c2, by simp only [List.length_map]; rw [← HNB'.out], ?_, ?_, by simp only; rw [← HNB'.out]; exact hcb, by simp only [List.length_map]; exact hc2⟩, ((hx.setCell (p := ⟨w.heap.size + 1, 0, none⟩) (by simp only; omega) _).setCell (p := ⟨w.heap.size + 1, 1, none⟩) (by simp only; omega) _)⟩
          · simp only
            rw [← HNB'.out]
            exact own_le (own_only HE'.out hon (own_ne HE'.out bb3 (by decide))) (Nat.zero_le _)
          · simp only [List.length_map]
            exact own_le (own_only HS'.out hon (own_ne HS'.out bb3 (by decide))) (Nat.zero_le _)
end Go.Proofs.Ytaebindbadfaaaa
