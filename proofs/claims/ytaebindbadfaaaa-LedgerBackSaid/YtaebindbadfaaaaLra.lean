
/- Ledger: the walk of the reference's Valid (printed by tools/genLr.py). -/
import Derived.Test.YtaebindbadfaaaaLna
namespace Go.Proofs.Ytaebindbadfaaaa
open Go.RowKit
set_option linter.unusedVariables false
set_option linter.unusedSimpArgs false
theorem slice_en (b o len cap k : Nat) (hk : k ≤ cap) (W : World) : (Instr.slice 28 (.slice (some ⟨b, o, none⟩) len cap) none (some (.int .i64 (k : Int))) none).run Try.prog W = .ok (.slice (some ⟨b, o, none⟩) k cap) W := by
  obtain ⟨i, hi, _⟩ := en_inf
  exact run_slice_high (P := Try.prog) 28 33 i Try.underlying28 hi b o len cap k hk W
set_option maxHeartbeats 12800000 in
set_option maxRecDepth 100000 in
theorem clusterlocksref14.Valid_c (x : CL.Lg) (v : Value) (w : World) (hv : LgV w v x) (hf : Fine x) :
    Calls Try.prog 33 #[v] w fun r w' => r = .returned (.bool (CL.lval x)) ∧ Ext w w' := by
  obtain ⟨A, c, A', c', rfl, h1, h2, h3, h4⟩ := hv
  obtain ⟨k1, k2, k3⟩ := hf
  by_cases hbig : 72 < x.es.length ∨ 4 < x.ss.length
  · have HF := Lib.hid (show CL.lval x = false by
      cases h : CL.lval x
      · rfl
      · have a1 := CL.lval_len h; have a2 := (CL.lval_get h).2.1; omega)
    by_cases hb1 : 72 < x.es.length
    · have hb2 : (72 : Int) < (x.es.length : Int) := by omega
      go_enter Try.func33, Try.ntmps33
      go_wp2
      go_ret
      exact ⟨ret_bool HF.out.symm, by go_grown⟩
    · have hb2 : (decide (72 < (x.es.length : Int))) = false := decide_eq_false (by omega)
      have hb3 : (4 : Int) < (x.ss.length : Int) := by omega
      go_enter Try.func33, Try.ntmps33
      go_wp2
      go_ret
      exact ⟨ret_bool HF.out.symm, by go_grown⟩
  · have hb2 : (decide (72 < (x.es.length : Int))) = false := decide_eq_false (by omega)
    have hb3 : (decide (4 < (x.ss.length : Int))) = false := decide_eq_false (by omega)
    have he72 : x.es.length ≤ 72 := by omega
    have hs4 : x.ss.length ≤ 4 := by omega
    clear hbig
    have HV := Lib.hid (CL.EnTo.zero x.es)
    go_enter Try.func33, Try.ntmps33
    go_wp2_with fail
    obtain ⟨b1, hx0⟩ := box1 w #[.slice A x.es.length c, .slice A' x.ss.length c'] 31
    generalize (w.alloc (.cells #[.slice A x.es.length c, .slice A' x.ss.length c'] 31)) = w1 at *
    obtain ⟨u0, u1⟩ := b1.c2
    go_wp2_with fail
    go_loopw [3] (fun i wr => ∃ j : Nat, j ≤ x.es.length ∧ i = .int .i64 j ∧ Ext w wr ∧ Blk wr w.heap.size 31 #[.slice A x.es.length c, .slice A' x.ss.length c'] ∧ Hid (CL.EnTo x.es j)) (fun i _ => x.es.length - (intOf i).toNat)
    case atStart => exact ⟨0, by omega, rfl, hx0, b1, HV⟩
    case round =>
      obtain ⟨j, hj, rfl, hy, bb, HJ⟩ := hrel
      obtain ⟨f0, f1⟩ := bb.c2
      by_cases hlt : j < x.es.length
      · obtain ⟨b, o, rfl, c0, c1, c2, c3, c4⟩ := (h1.ext hy).ens hlt
        have hnj := k3 _ (List.getElem_mem hlt)
        have HB := Lib.hid (fun h => CL.lval_en (x := x) hlt h)
        have HS := Lib.hid (fun h1 h2 h3 => HJ.out.step hlt h1 h2 h3)
        have bx := Blk.new wr 33 #[.string ⟨x.es[j].n.toArray⟩, .int .i64 x.es[j].b.m, .int .i64 x.es[j].b.u, .int .i64 x.es[j].a.m, .int .i64 x.es[j].a.u]
        have hxx := Ext.new wr (.cells #[.string ⟨x.es[j].n.toArray⟩, .int .i64 x.es[j].b.m, .int .i64 x.es[j].b.u, .int .i64 x.es[j].a.m, .int .i64 x.es[j].a.u] 33)
        have hsl := slice_en b o x.es.length c j (by omega)
        have HH := Lib.hid (fun (W : World) (h : Ext w W) => clusterlocksref14.Held_c (x.es.take j) x.es[j].n (some ⟨b, o, none⟩) c W (by rw [List.length_take]; unfold maxLen; omega) ((h1.ext h).ensPre j))
        rw [List.length_take, Nat.min_eq_left hj] at HH
        generalize hrj : x.es[j] = r0 at *
        have HRJ := Lib.hid hrj
        clear hrj
        have hneq := fun (W : World) => am_neq r0.b.m r0.b.u (CL.held (x.es.take j) r0.n).m (CL.held (x.es.take j) r0.n).u W
        have hgd := am_guard
        have hdec : (decide (r0.b.m = (CL.held (x.es.take j) r0.n).m ∧ r0.b.u = (CL.held (x.es.take j) r0.n).u)) = decide (r0.b = CL.held (x.es.take j) r0.n) := by
          cases r0.b; cases CL.held (x.es.take j) r0.n; simp
        simp only [hdec] at hneq
        clear hdec
        generalize hbd : decide (r0.b = CL.held (x.es.take j) r0.n) = bd at *
        have HBD := Lib.hid hbd
        clear hbd
        cases hvn : CL.vname r0.n
        · have HF := Lib.hid (HB.out (fun h => by rw [hvn] at h; cases h.1))
          go_wp2_with fail
          generalize (wr.alloc (.cells #[.string ⟨r0.n.toArray⟩, .int .i64 r0.b.m, .int .i64 r0.b.u, .int .i64 r0.a.m, .int .i64 r0.a.u] 33)) = W at *
          obtain ⟨e0, e1, e2, e3, e4⟩ := bx.c5
          obtain ⟨f0, f1⟩ := (bb.ext hxx).c2
          have q0 := ExtOf.cell e0
          have q1 := ExtOf.cell e1
          have q2 := ExtOf.cell e2
          have q3 := ExtOf.cell e3
          have q4 := ExtOf.cell e4
          have q5 := ExtOf.cell f0
          have q6 := ExtOf.cell f1
          have hyW := hy.tr hxx
          refine wp_region_ext_lit (by kernel_rfl) (by kernel_rfl) ?_
          repeat (go_big_quiet_step (first
            | (go_at_call 53; exact xqP (clusterlocksref05.ValidName_c _ _ hnj))
            | (go_at_call 35; exact xqX (HH.out _ (hyW.tr (ExtOf.ext _))))
            | (go_at_call 16; exact xqX (clusterlocksref14.Grows_c _ _ _ _ _))))
          refine wpQuiet_nil ?_
          intro wq hw'
          obtain ⟨⟨wq', hxq⟩, hw''⟩ := hw'
          subst hw''
          go_wp2
          go_ret
          exact ⟨ret_bool HF.out.symm, hyW.tr hxq⟩
        · cases bd
          · have HF := Lib.hid (HB.out (fun h => of_decide_eq_false HBD.out h.2.1))
            go_wp2_with fail
            generalize (wr.alloc (.cells #[.string ⟨r0.n.toArray⟩, .int .i64 r0.b.m, .int .i64 r0.b.u, .int .i64 r0.a.m, .int .i64 r0.a.u] 33)) = W at *
            obtain ⟨e0, e1, e2, e3, e4⟩ := bx.c5
            obtain ⟨f0, f1⟩ := (bb.ext hxx).c2
            have q0 := ExtOf.cell e0
            have q1 := ExtOf.cell e1
            have q2 := ExtOf.cell e2
            have q3 := ExtOf.cell e3
            have q4 := ExtOf.cell e4
            have q5 := ExtOf.cell f0
            have q6 := ExtOf.cell f1
            have hyW := hy.tr hxx
            refine wp_region_ext_lit (by kernel_rfl) (by kernel_rfl) ?_
            repeat (go_big_quiet_step (first
              | (go_at_call 53; exact xqP (clusterlocksref05.ValidName_c _ _ hnj))
              | (go_at_call 35; exact xqX (HH.out _ (hyW.tr (ExtOf.ext _))))
              | (go_at_call 16; exact xqX (clusterlocksref14.Grows_c _ _ _ _ _))))
            refine wpQuiet_nil ?_
            intro wq hw'
            obtain ⟨⟨wq', hxq⟩, hw''⟩ := hw'
            subst hw''
            go_wp2
            go_ret
            exact ⟨ret_bool HF.out.symm, hyW.tr hxq⟩
          · cases hg : CL.grows r0.b r0.a
            · have HF := Lib.hid (HB.out (fun h => by rw [hg] at h; cases h.2.2))
              go_wp2_with fail
              generalize (wr.alloc (.cells #[.string ⟨r0.n.toArray⟩, .int .i64 r0.b.m, .int .i64 r0.b.u, .int .i64 r0.a.m, .int .i64 r0.a.u] 33)) = W at *
              obtain ⟨e0, e1, e2, e3, e4⟩ := bx.c5
              obtain ⟨f0, f1⟩ := (bb.ext hxx).c2
              have q0 := ExtOf.cell e0
              have q1 := ExtOf.cell e1
              have q2 := ExtOf.cell e2
              have q3 := ExtOf.cell e3
              have q4 := ExtOf.cell e4
              have q5 := ExtOf.cell f0
              have q6 := ExtOf.cell f1
              have hyW := hy.tr hxx
              refine wp_region_ext_lit (by kernel_rfl) (by kernel_rfl) ?_
              repeat (go_big_quiet_step (first
                | (go_at_call 53; exact xqP (clusterlocksref05.ValidName_c _ _ hnj))
                | (go_at_call 35; exact xqX (HH.out _ (hyW.tr (ExtOf.ext _))))
                | (go_at_call 16; exact xqX (clusterlocksref14.Grows_c _ _ _ _ _))))
              refine wpQuiet_nil ?_
              intro wq hw'
              obtain ⟨⟨wq', hxq⟩, hw''⟩ := hw'
              subst hw''
              go_wp2
              go_ret
              exact ⟨ret_bool HF.out.symm, hyW.tr hxq⟩
            · have HG := Lib.hid (HS.out hvn (of_decide_eq_true HBD.out) hg)
              go_wp2_with fail
              generalize (wr.alloc (.cells #[.string ⟨r0.n.toArray⟩, .int .i64 r0.b.m, .int .i64 r0.b.u, .int .i64 r0.a.m, .int .i64 r0.a.u] 33)) = W at *
              obtain ⟨e0, e1, e2, e3, e4⟩ := bx.c5
              obtain ⟨f0, f1⟩ := (bb.ext hxx).c2
              have q0 := ExtOf.cell e0
              have q1 := ExtOf.cell e1
              have q2 := ExtOf.cell e2
              have q3 := ExtOf.cell e3
              have q4 := ExtOf.cell e4
              have q5 := ExtOf.cell f0
              have q6 := ExtOf.cell f1
              have hyW := hy.tr hxx
              refine wp_region_ext_lit (by kernel_rfl) (by kernel_rfl) ?_
              repeat (go_big_quiet_step (first
                | (go_at_call 53; exact xqP (clusterlocksref05.ValidName_c _ _ hnj))
                | (go_at_call 35; exact xqX (HH.out _ (hyW.tr (ExtOf.ext _))))
                | (go_at_call 16; exact xqX (clusterlocksref14.Grows_c _ _ _ _ _))))
              refine wpQuiet_nil ?_
              intro wq hw'
              obtain ⟨⟨wq', hxq⟩, hw''⟩ := hw'
              subst hw''
              go_wp2
              exact ⟨⟨j + 1, by omega, by go_num, hyW.tr hxq, (bb.ext hxx).ext hxq, HG⟩, by simp [intOf]; omega⟩
      · obtain rfl : j = x.es.length := by omega
        have NX := Lib.hid (clusterlocksref14.names_c x.es A c wr (by omega) (h1.ext hy))
        have HSL := Lib.hid (CL.snm_len x.es)
        by_cases h8 : 8 < (CL.snm x.es).length
        · have HF := Lib.hid (CL.lval_dn (x := x) (by rw [← HSL.out]; exact h8))
          have h8' : (8 : Int) < ((CL.snm x.es).length : Int) := by omega
          clear h8
          go_wp2_with (go_at_call 51; (with_reducible refine NX.out.mono ?_); rintro r w2 ⟨B, cb, rfl, _, _, hx2⟩)
          go_ret
          exact ⟨ret_bool HF.out.symm, hy.tr hx2⟩
        · have h8' : (decide (8 < ((CL.snm x.es).length : Int))) = false := decide_eq_false (by omega)
          have HLV := Lib.hid (CL.lval_svs (x := x) HJ.out (by rw [← HSL.out]; omega))
          clear h8
          go_wp2_with (go_at_call 51; (with_reducible refine NX.out.mono ?_); rintro r w2 ⟨B, cb, rfl, _, _, hx2⟩)
          have hy2 := hy.tr hx2
          have bb2 := bb.ext hx2
          have HV2 := Lib.hid (CL.SvTo.zero x.ss x.es.length)
          go_loopw [5] (fun i wr => ∃ j : Nat, j ≤ x.ss.length ∧ i = .int .i64 j ∧ Ext w wr ∧ Blk wr w.heap.size 31 #[.slice A x.es.length c, .slice A' x.ss.length c'] ∧ Hid (CL.SvTo x.ss x.es.length j)) (fun i _ => x.ss.length - (intOf i).toNat)
          case atStart => exact ⟨0, by omega, rfl, hy2, bb2, HV2⟩
          case round =>
            clear hy bb hx2 hy2 bb2
            obtain ⟨j, hj, rfl, hy, bb, HJ⟩ := hrel
            obtain ⟨f0, f1⟩ := bb.c2
            by_cases hlt : j < x.ss.length
            · obtain ⟨b, o, rfl, c0, c1⟩ := (h2.ext hy).svl hlt
              have HB := Lib.hid (fun h => CL.svs_bad (n := x.es.length) hlt h)
              have HI := Lib.hid (CL.svok_ref (n := x.es.length) hlt)
              have HS := Lib.hid (fun h => HJ.out.step hlt h)
              have bx := Blk.new wr 69 #[.int .i64 x.ss[j].l, .int .i64 x.ss[j].t]
              have hxx := Ext.new wr (.cells #[.int .i64 x.ss[j].l, .int .i64 x.ss[j].t] 69)
              have FI := Lib.hid (fun (W : World) (h : Ext w W) => clusterlocksref14.find_c x.ss x.ss[j].l (some ⟨b, o, none⟩) c' W (by unfold maxLen; omega) (h2.ext h))
              have HPV : (h0 : 0 < j) → ∃ p : Int, p = (x.ss[j - 1]'(by omega)).t ∧ wr.cell? ⟨b, o + (j - 1) * 2 + 1, none⟩ = some (.int .i64 p) := fun h0 => by
                obtain ⟨b', o', e', _, d1⟩ := (h2.ext hy).svl (k := j - 1) (by omega)
                injection e' with e'
                injection e' with e1 e2
                subst e1 e2
                exact ⟨_, rfl, d1⟩
              generalize hrj : x.ss[j] = v0 at *
              generalize hpl : CL.plc x.ss v0.l = q at *
              have HRJ := Lib.hid hrj
              clear hrj hpl
              have HPW := Lib.hid HPV
              clear HPV
              by_cases k1 : v0.l < 1
              · have HF := Lib.hid (HB.out (fun h => by have := (HI.out.1 h).1; omega))
                go_wp2_with fail
                generalize (wr.alloc (.cells #[.int .i64 v0.l, .int .i64 v0.t] 69)) = W at *
                obtain ⟨e0, e1⟩ := bx.c2
                obtain ⟨f0, f1⟩ := (bb.ext hxx).c2
                have q0 := ExtOf.cell e0
                have q1 := ExtOf.cell e1
                have q5 := ExtOf.cell f0
                have q6 := ExtOf.cell f1
                have hyW := hy.tr hxx
                refine wp_region_ext_lit (by kernel_rfl) (by kernel_rfl) ?_
                repeat (go_big_quiet_step ((go_at_call 47; exact xqP (FI.out _ (hyW.tr (ExtOf.ext _))))))
                refine wpQuiet_nil ?_
                intro wq hw'
                obtain ⟨⟨wq', hxq⟩, hw''⟩ := hw'
                subst hw''
                go_wp2
                go_ret
                exact ⟨ret_bool (HLV.out.trans HF.out).symm, hyW.tr hxq⟩
              · have d1 : (decide (v0.l < 1)) = false := decide_eq_false k1
                by_cases k2 : 99 < v0.l
                · have HF := Lib.hid (HB.out (fun h => by have := (HI.out.1 h).1; omega))
                  go_wp2_with fail
                  generalize (wr.alloc (.cells #[.int .i64 v0.l, .int .i64 v0.t] 69)) = W at *
                  obtain ⟨e0, e1⟩ := bx.c2
                  obtain ⟨f0, f1⟩ := (bb.ext hxx).c2
                  have q0 := ExtOf.cell e0
                  have q1 := ExtOf.cell e1
                  have q5 := ExtOf.cell f0
                  have q6 := ExtOf.cell f1
                  have hyW := hy.tr hxx
                  refine wp_region_ext_lit (by kernel_rfl) (by kernel_rfl) ?_
                  repeat (go_big_quiet_step ((go_at_call 47; exact xqP (FI.out _ (hyW.tr (ExtOf.ext _))))))
                  refine wpQuiet_nil ?_
                  intro wq hw'
                  obtain ⟨⟨wq', hxq⟩, hw''⟩ := hw'
                  subst hw''
                  go_wp2
                  go_ret
                  exact ⟨ret_bool (HLV.out.trans HF.out).symm, hyW.tr hxq⟩
                · have d2 : (decide (99 < v0.l)) = false := decide_eq_false k2
                  by_cases k3 : v0.t < 0
                  · have HF := Lib.hid (HB.out (fun h => by have := (HI.out.1 h).2.1; omega))
                    go_wp2_with fail
                    generalize (wr.alloc (.cells #[.int .i64 v0.l, .int .i64 v0.t] 69)) = W at *
                    obtain ⟨e0, e1⟩ := bx.c2
                    obtain ⟨f0, f1⟩ := (bb.ext hxx).c2
                    have q0 := ExtOf.cell e0
                    have q1 := ExtOf.cell e1
                    have q5 := ExtOf.cell f0
                    have q6 := ExtOf.cell f1
                    have hyW := hy.tr hxx
                    refine wp_region_ext_lit (by kernel_rfl) (by kernel_rfl) ?_
                    repeat (go_big_quiet_step ((go_at_call 47; exact xqP (FI.out _ (hyW.tr (ExtOf.ext _))))))
                    refine wpQuiet_nil ?_
                    intro wq hw'
                    obtain ⟨⟨wq', hxq⟩, hw''⟩ := hw'
                    subst hw''
                    go_wp2
                    go_ret
                    exact ⟨ret_bool (HLV.out.trans HF.out).symm, hyW.tr hxq⟩
                  · have d3 : (decide (v0.t < 0)) = false := decide_eq_false k3
                    by_cases k4 : (x.es.length : Int) < v0.t
                    · have HF := Lib.hid (HB.out (fun h => by have := (HI.out.1 h).2.1; omega))
                      go_wp2_with fail
                      generalize (wr.alloc (.cells #[.int .i64 v0.l, .int .i64 v0.t] 69)) = W at *
                      obtain ⟨e0, e1⟩ := bx.c2
                      obtain ⟨f0, f1⟩ := (bb.ext hxx).c2
                      have q0 := ExtOf.cell e0
                      have q1 := ExtOf.cell e1
                      have q5 := ExtOf.cell f0
                      have q6 := ExtOf.cell f1
                      have hyW := hy.tr hxx
                      refine wp_region_ext_lit (by kernel_rfl) (by kernel_rfl) ?_
                      repeat (go_big_quiet_step ((go_at_call 47; exact xqP (FI.out _ (hyW.tr (ExtOf.ext _))))))
                      refine wpQuiet_nil ?_
                      intro wq hw'
                      obtain ⟨⟨wq', hxq⟩, hw''⟩ := hw'
                      subst hw''
                      go_wp2
                      go_ret
                      exact ⟨ret_bool (HLV.out.trans HF.out).symm, hyW.tr hxq⟩
                    · have d4 : (decide ((x.es.length : Int) < v0.t)) = false := decide_eq_false k4
                      rcases Nat.eq_zero_or_pos j with j0 | j0
                      · subst j0
                        simp only [Nat.zero_mul, Nat.add_zero] at c0 c1
                        by_cases k6 : q = 0
                        · have d6 : (q != 0) = false := by simp [k6]
                          have HG := Lib.hid (HS.out (HI.out.2 ⟨by omega, by omega, fun h => by omega, by simpa using k6⟩))
                          clear k6
                          go_wp2_with fail
                          generalize (wr.alloc (.cells #[.int .i64 v0.l, .int .i64 v0.t] 69)) = W at *
                          obtain ⟨e0, e1⟩ := bx.c2
                          obtain ⟨f0, f1⟩ := (bb.ext hxx).c2
                          have q0 := ExtOf.cell e0
                          have q1 := ExtOf.cell e1
                          have q5 := ExtOf.cell f0
                          have q6 := ExtOf.cell f1
                          have hyW := hy.tr hxx
                          refine wp_region_ext_lit (by kernel_rfl) (by kernel_rfl) ?_
                          repeat (go_big_quiet_step ((go_at_call 47; exact xqP (FI.out _ (hyW.tr (ExtOf.ext _))))))
                          refine wpQuiet_nil ?_
                          intro wq hw'
                          obtain ⟨⟨wq', hxq⟩, hw''⟩ := hw'
                          subst hw''
                          go_wp2
                          exact ⟨⟨1, by omega, rfl, hyW.tr hxq, (bb.ext hxx).ext hxq, HG⟩, by simp [intOf]; omega⟩
                        · have d6 : (q != 0) = true := by simpa using k6
                          have HF := Lib.hid (HB.out (fun h => k6 (by simpa using (HI.out.1 h).2.2.2)))
                          clear k6
                          go_wp2_with fail
                          generalize (wr.alloc (.cells #[.int .i64 v0.l, .int .i64 v0.t] 69)) = W at *
                          obtain ⟨e0, e1⟩ := bx.c2
                          obtain ⟨f0, f1⟩ := (bb.ext hxx).c2
                          have q0 := ExtOf.cell e0
                          have q1 := ExtOf.cell e1
                          have q5 := ExtOf.cell f0
                          have q6 := ExtOf.cell f1
                          have hyW := hy.tr hxx
                          refine wp_region_ext_lit (by kernel_rfl) (by kernel_rfl) ?_
                          repeat (go_big_quiet_step ((go_at_call 47; exact xqP (FI.out _ (hyW.tr (ExtOf.ext _))))))
                          refine wpQuiet_nil ?_
                          intro wq hw'
                          obtain ⟨⟨wq', hxq⟩, hw''⟩ := hw'
                          subst hw''
                          go_wp2
                          go_ret
                          exact ⟨ret_bool (HLV.out.trans HF.out).symm, hyW.tr hxq⟩
                      · have g1 : IntKind.i64.wrap ((j : Int) - 1) = (j : Int) - 1 := IntWalk.i64_in _ (by omega)
                        have g2 : (1 : Int) ≤ (j : Int) := by omega
                        have g3 : ((j : Int) - 1).toNat = j - 1 := by omega
                        have g4 : (j : Int) - 1 < (x.ss.length : Int) := by omega
                        have g5 : 0 ≤ (j : Int) - 1 := by omega
                        obtain ⟨p, hp, dp⟩ := HPW.out j0
                        have HP := Lib.hid hp
                        clear hp
                        by_cases k5 : v0.t < p
                        · have HF := Lib.hid (HB.out (fun h => by have h5 := (HI.out.1 h).2.2.1 j0; rw [← HP.out] at h5; omega))
                          go_wp2_with fail
                          generalize (wr.alloc (.cells #[.int .i64 v0.l, .int .i64 v0.t] 69)) = W at *
                          obtain ⟨e0, e1⟩ := bx.c2
                          obtain ⟨f0, f1⟩ := (bb.ext hxx).c2
                          have q0 := ExtOf.cell e0
                          have q1 := ExtOf.cell e1
                          have q5 := ExtOf.cell f0
                          have q6 := ExtOf.cell f1
                          have hyW := hy.tr hxx
                          have q7 := ExtOf.cell (hxx.cell dp)
                          refine wp_region_ext_lit (by kernel_rfl) (by kernel_rfl) ?_
                          repeat (go_big_quiet_step ((go_at_call 47; exact xqP (FI.out _ (hyW.tr (ExtOf.ext _))))))
                          refine wpQuiet_nil ?_
                          intro wq hw'
                          obtain ⟨⟨wq', hxq⟩, hw''⟩ := hw'
                          subst hw''
                          go_wp2
                          go_ret
                          exact ⟨ret_bool (HLV.out.trans HF.out).symm, hyW.tr hxq⟩
                        · have d5 : (decide (v0.t < p)) = false := decide_eq_false k5
                          by_cases k6 : q = (j : Int)
                          · have d6 : (q != (j : Int)) = false := by simp [k6]
                            have HG := Lib.hid (HS.out (HI.out.2 ⟨by omega, by omega, fun h => by rw [← HP.out]; omega, k6⟩))
                            clear k6
                            go_wp2_with fail
                            generalize (wr.alloc (.cells #[.int .i64 v0.l, .int .i64 v0.t] 69)) = W at *
                            obtain ⟨e0, e1⟩ := bx.c2
                            obtain ⟨f0, f1⟩ := (bb.ext hxx).c2
                            have q0 := ExtOf.cell e0
                            have q1 := ExtOf.cell e1
                            have q5 := ExtOf.cell f0
                            have q6 := ExtOf.cell f1
                            have hyW := hy.tr hxx
                            have q7 := ExtOf.cell (hxx.cell dp)
                            refine wp_region_ext_lit (by kernel_rfl) (by kernel_rfl) ?_
                            repeat (go_big_quiet_step ((go_at_call 47; exact xqP (FI.out _ (hyW.tr (ExtOf.ext _))))))
                            refine wpQuiet_nil ?_
                            intro wq hw'
                            obtain ⟨⟨wq', hxq⟩, hw''⟩ := hw'
                            subst hw''
                            go_wp2
                            exact ⟨⟨j + 1, by omega, by go_num, hyW.tr hxq, (bb.ext hxx).ext hxq, HG⟩, by simp [intOf]; omega⟩
                          · have d6 : (q != (j : Int)) = true := by simpa using k6
                            have HF := Lib.hid (HB.out (fun h => k6 (HI.out.1 h).2.2.2))
                            clear k6
                            go_wp2_with fail
                            generalize (wr.alloc (.cells #[.int .i64 v0.l, .int .i64 v0.t] 69)) = W at *
                            obtain ⟨e0, e1⟩ := bx.c2
                            obtain ⟨f0, f1⟩ := (bb.ext hxx).c2
                            have q0 := ExtOf.cell e0
                            have q1 := ExtOf.cell e1
                            have q5 := ExtOf.cell f0
                            have q6 := ExtOf.cell f1
                            have hyW := hy.tr hxx
                            have q7 := ExtOf.cell (hxx.cell dp)
                            refine wp_region_ext_lit (by kernel_rfl) (by kernel_rfl) ?_
                            repeat (go_big_quiet_step ((go_at_call 47; exact xqP (FI.out _ (hyW.tr (ExtOf.ext _))))))
                            refine wpQuiet_nil ?_
                            intro wq hw'
                            obtain ⟨⟨wq', hxq⟩, hw''⟩ := hw'
                            subst hw''
                            go_wp2
                            go_ret
                            exact ⟨ret_bool (HLV.out.trans HF.out).symm, hyW.tr hxq⟩
            · have HF := Lib.hid (CL.svs_all hs4 (by omega) HJ.out)
              go_wp2
              go_ret
              exact ⟨ret_bool (HLV.out.trans HF.out).symm, hy⟩
end Go.Proofs.Ytaebindbadfaaaa
