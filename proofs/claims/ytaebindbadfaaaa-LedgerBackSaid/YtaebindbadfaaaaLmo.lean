
/- Ledger: the mill of chapter 14: more, made. -/
import Derived.Test.YtaebindbadfaaaaLmm
namespace Go.Proofs.Ytaebindbadfaaaa
open Go.RowKit
set_option linter.unusedVariables false
set_option linter.unusedSimpArgs false
theorem fine_of {x : CL.Lg} (h : CL.lval x = true) : Fine x := by
  have h1 := CL.lval_len h
  obtain ⟨⟨h2, _⟩, h3, _⟩ := CL.lval_get h
  refine ⟨by omega, by omega, fun e he => ?_⟩
  obtain ⟨i, hi, rfl⟩ := List.getElem_of_mem he
  have h4 := (h2 i hi hi).1
  rcases Nat.lt_or_ge 12 x.es[i].n.length with h5 | h5
  · rw [CL.vname_len (.inr h5)] at h4; cases h4
  · unfold maxLen; omega
theorem held_in {l : List CL.En} (h : CL.EnTo l l.length) (s : List UInt8) : 0 ≤ (CL.held l s).u ∧ (CL.held l s).u ≤ 8 := by
  revert h
  induction l using CL.rev_ind with
  | h0 => intro _; simp [CL.held_nil]
  | h1 l e ih =>
    intro h
    obtain ⟨h1, _, _, h4⟩ := h.last
    rw [CL.held_snoc]
    split
    · rcases CL.usable_iff.1 (CL.grows_use h4) with h | h <;> omega
    · exact ih h1
theorem nmOf_len (k : Int) : (CL.nmOf k).length = 1 := by
  unfold CL.nmOf
  by_cases h0 : k = 0 <;> by_cases h1 : k = 1 <;> by_cases h2 : k = 2 <;> by_cases h3 : k = 3 <;> simp [h0, h1, h2, h3]
theorem LgOwn.lits {w : World} {b : Nat} {v : Value} {x : CL.Lg} (h : LgOwn w b v x) : ∃ A c A' c', v = .agg #[.slice A x.es.length c, .slice A' x.ss.length c'] := by
  obtain ⟨A, c, A', c', rfl, _⟩ := h; exact ⟨A, c, A', c', rfl⟩
def tAt (i : Nat) (v : Value) : Value := match v with | .tuple cs => cs.getD i undef | _ => undef
def aggOf (v : Value) : Array Value := match v with | .agg cs => cs | _ => #[]
set_option maxHeartbeats 25600000 in
set_option maxRecDepth 100000 in
theorem more_c (x : CL.Lg) (n : Int) (v : Value) (w : World) (hv : LgOwn w 0 v x) (hval : CL.lval x = true) :
    Calls Try.prog 30 #[v, .int .i64 n] w fun r w' => ∃ v', r = .returned v' ∧ LgOwn w' 0 v' (CL.mre x (CL.mdm n)) ∧ Ext w w' := by
  have hf := fine_of hval
  have hen := (CL.lval_get hval).1.1
  have HV := Lib.hid hv
  have hvv := hv.view
  obtain ⟨A, c, A', c', rfl, ho1, ho2, h3, h4⟩ := hv
  have h1 := Sits.of_own ho1
  have h2 := Sits.of_own ho2
  obtain ⟨n0, n1⟩ := CL.mdm_lt n
  have MX := Lib.hid (fun W => clusterlocksmill.Mod_c n 1048576 W (by omega) (by omega))
  rw [show (if n.tmod 1048576 < 0 then n.tmod 1048576 + 1048576 else n.tmod 1048576) = CL.mdm n from rfl] at MX
  generalize CL.mdm n = N at *
  obtain ⟨t0, t1⟩ := tmod_in (m := 5) n0 (by omega)
  obtain ⟨q0, q1⟩ := tdiv_in (m := 7) n0 n1 (by omega)
  obtain ⟨r0, r1⟩ := tmod_in (m := 9) q0 (by omega)
  obtain ⟨p0, p1⟩ := tdiv_in (m := 5) n0 n1 (by omega)
  have hw1 : IntKind.i64.wrap (N.tdiv 7) = N.tdiv 7 := IntWalk.i64_in _ (by omega)
  have hw2 : IntKind.i64.wrap (1 + (N.tdiv 7) % 9) = 1 + (N.tdiv 7) % 9 := IntWalk.i64_in _ (by omega)
  have hw3 : IntKind.i64.wrap (N.tdiv 5) = N.tdiv 5 := IntWalk.i64_in _ (by omega)
  go_enter Try.func30, Try.ntmps30
  go_wp2_with fail
  obtain ⟨b1, bR, hx0⟩ := two_rows w #[.slice A x.es.length c, .slice A' x.ss.length c'] 31 #[.slice none 0 0, .slice none 0 0] 31
  have hz := hx0.size
  have bRl := bR.lt
  have b1l := b1.lt
  generalize ((w.alloc (.cells #[.slice A x.es.length c, .slice A' x.ss.length c'] 31)).alloc (.cells #[.slice none 0 0, .slice none 0 0] 31)) = W at *
  obtain ⟨e0, e1⟩ := b1.c2
  by_cases h7 : N.tmod 7 = 0
  · have HF := Lib.hid (show CL.mre x N = if (CL.sav x (1 + (N.tdiv 7).tmod 9)).2 = 0 then (CL.sav x (1 + (N.tdiv 7).tmod 9)).1 else x by unfold CL.mre; rw [if_pos h7])
    have SX := Lib.hid (fun W' (h : Ext w W') => clusterlocksref14.Save_c x (1 + (N.tdiv 7).tmod 9) (.agg #[.slice A x.es.length c, .slice A' x.ss.length c']) W' (hvv.ext h) hf)
    rw [Int.tmod_eq_emod_of_nonneg q0] at SX HF
    generalize CL.sav x (1 + (N.tdiv 7) % 9) = y at *
    obtain ⟨y1, y2⟩ := y
    go_wp2_with (first
      | (go_at_call 29; (with_reducible refine (MX.out _).mono ?_); rintro r w2 ⟨rfl, rfl⟩)
      | (go_at_call 21; (with_reducible refine (SX.out _ hx0).mono ?_); rintro r w3 ⟨v3, rfl, hl3, hx3⟩; (obtain ⟨A3, c3, B3, d3, rfl⟩ := hl3.lits); (have bS := Blk.new w3 31 #[.slice A3 y1.es.length c3, .slice B3 y1.ss.length d3]); (replace hx3 := (show Ext _ w3 from hx3).tr (Ext.new w3 (.cells #[.slice A3 y1.es.length c3, .slice B3 y1.ss.length d3] 31))); (replace hl3 := hl3.ext (Ext.new w3 (.cells #[.slice A3 y1.es.length c3, .slice B3 y1.ss.length d3] 31))); (replace bR := bR.ext hx3); (replace b1 := b1.ext hx3); (obtain ⟨s0, s1⟩ := bS.c2); (obtain ⟨f0, f1⟩ := b1.c2); (obtain ⟨g0, g1⟩ := bR.c2); (have n0 := bR.frozen 0); (have n1 := bR.frozen 1))
      | go_in)
    · rename_i hb
      have hy : y2 = 0 := by simpa using hb
      obtain ⟨d0, d1⟩ := (bR.set2 (.slice A3 y1.es.length c3) (.slice B3 y1.ss.length d3)).c2
      refine bodyPost_ret (v := .agg #[.slice A3 y1.es.length c3, .slice B3 y1.ss.length d3]) (by simp [results, Try.results30, go_sem, d0, d1]) rfl ?_
      rw [HF.out, if_pos hy]
      exact ⟨_, rfl, hl3.only bR (Only.rf.set2 _ _) (by decide) (by decide), ((hx0.tr hx3).setCell (p := ⟨w.heap.size + 1, 0, none⟩) (by simp only; omega) _).setCell (p := ⟨w.heap.size + 1, 1, none⟩) (by simp only; omega) _⟩
    · rename_i hb
      have hy : ¬ y2 = 0 := by simpa using hb
      obtain ⟨d0, d1⟩ := (bR.set2 (.slice A x.es.length c) (.slice A' x.ss.length c')).c2
      refine bodyPost_ret (v := .agg #[.slice A x.es.length c, .slice A' x.ss.length c']) (by simp [results, Try.results30, go_sem, d0, d1]) rfl ?_
      rw [HF.out, if_neg hy]
      exact ⟨_, rfl, (HV.out.ext (hx0.tr hx3)).only bR (Only.rf.set2 _ _) (by decide) (by decide), ((hx0.tr hx3).setCell (p := ⟨w.heap.size + 1, 0, none⟩) (by simp only; omega) _).setCell (p := ⟨w.heap.size + 1, 1, none⟩) (by simp only; omega) _⟩
  · have hs7 : (N % 7 == 0) = false := by rw [← Int.tmod_eq_emod_of_nonneg n0]; exact beq_eq_false_iff_ne.2 h7
    have HF := Lib.hid (show CL.mre x N = if (CL.rcd x (CL.enOf x N)).2 = 0 then (CL.rcd x (CL.enOf x N)).1 else x by unfold CL.mre; rw [if_neg h7])
    have hin := held_in hen (CL.nmOf (N.tmod 5))
    have RX := Lib.hid (fun W' (h : Ext w W') => clusterlocksref14.Record_n x (CL.enOf x N) (.agg #[.slice A x.es.length c, .slice A' x.ss.length c']) W' (hvv.ext h) hf (by unfold CL.enOf; simp only [nmOf_len]; unfold maxLen; omega))
    have GX := Lib.hid (fun W' => grown_c (CL.held x.es (CL.nmOf (N.tmod 5))) (N.tdiv 5) W' hin p0 p1)
    have HX := Lib.hid (fun W' (h : Ext w W') => clusterlocksref14.Held_c x.es (CL.nmOf (N.tmod 5)) A c W' (by have := hf.1; unfold maxLen; omega) (h1.ext h))
    unfold LePostN at RX
    unfold CL.enOf at RX HF
    generalize CL.held x.es (CL.nmOf (N.tmod 5)) = bf at *
    generalize CL.grownF bf (N.tdiv 5) = af at *
    clear h7 r0 r1 q0 q1 hin hw1 hw2
    have h5 : N.tmod 5 = 0 ∨ N.tmod 5 = 1 ∨ N.tmod 5 = 2 ∨ N.tmod 5 = 3 ∨ N.tmod 5 = 4 := by omega
    have hem := Int.tmod_eq_emod_of_nonneg (b := 5) n0
    clear t0 t1
    rcases h5 with h5 | h5 | h5 | h5 | h5
    · skip
      skip
      rw [h5] at RX HX HF hem
      replace hem := hem.symm
      rw [show CL.nmOf _ = [97] from rfl] at RX HX HF
      generalize CL.rcd x ⟨[97], bf, af⟩ = y at *
      obtain ⟨y1, y2⟩ := y
      go_wp2_with (first
        | (go_at_call 29; (with_reducible refine (MX.out _).mono ?_); rintro r w2 ⟨rfl, rfl⟩)
        | (go_at_call 35; (with_reducible refine (HX.out _ (hx0.tr (Ext.new _ _))).mono ?_); rintro r w3 ⟨rfl, hx3⟩; (replace hx3 := Ext.tr (Ext.new _ _) hx3); (replace hx3 := (show Ext W w3 from hx3).tr (Ext.new w3 (.cells #[.int .i64 bf.m, .int .i64 bf.u] 23))); (have bF := Blk.new w3 23 #[.int .i64 bf.m, .int .i64 bf.u]); (replace bR := bR.ext hx3); (replace b1 := b1.ext hx3))
        | go_in)
      generalize (w3.alloc (.cells #[.int .i64 bf.m, .int .i64 bf.u] 23)) = w4 at *
      obtain ⟨f0, f1⟩ := bF.c2
      obtain ⟨k0, k1⟩ := b1.c2
      have hx4 := hx0.tr hx3
      refine Rl.wp_region_rel (fun _ => False) (fun _ h => h.elim) (by kernel_rfl) (by kernel_rfl) (by kernel_rfl) ?_
      have hA : ∀ wr, Rl.Chg (fun _ => False) w4 wr → Ext w4 wr := fun wr h => h.ext (fun _ h => h)
      (conv => arg 8; simp only [List.nil_append, List.cons_append]); (conv => arg 9; intro xs; simp [Act.put]); refine Rl.RelW.quiet (fun _ => .agg #[.slice A x.es.length c, .slice A' x.ss.length c']) [] [] rfl rfl (fun _ _ _ => rfl) (by simp) (by simp) (by intro xs Ss wr hC hH; have hxr := hA _ hC; simp [Rl.outAt, Rl.outR, go_sem, hxr.cell k0, hxr.cell k1]) ?_
      (conv => arg 8; simp only [List.nil_append, List.cons_append]); (conv => arg 9; intro xs; simp [Act.put]); refine Rl.RelW.quiet (fun _ => .string ⟨#[97]⟩) [] [] rfl rfl (fun _ _ _ => rfl) (by simp) (by simp) (by intro xs Ss wr hC hH; have hxr := hA _ hC; simp [Rl.outAt, Rl.outR, go_sem, True]) ?_
      (conv => arg 8; simp only [List.nil_append, List.cons_append]); (conv => arg 9; intro xs; simp [Act.put]); refine Rl.RelW.quiet (fun _ => .agg #[.int .i64 bf.m, .int .i64 bf.u]) [] [] rfl rfl (fun _ _ _ => rfl) (by simp) (by simp) (by intro xs Ss wr hC hH; have hxr := hA _ hC; simp [Rl.outAt, Rl.outR, go_sem, hxr.cell f0, hxr.cell f1]) ?_
      (conv => arg 8; simp only [List.nil_append, List.cons_append]); (conv => arg 9; intro xs; simp [Act.put]); refine Rl.RelW.quiet (fun _ => .agg #[.int .i64 bf.m, .int .i64 bf.u]) [] [] rfl rfl (fun _ _ _ => rfl) (by simp) (by simp) (by intro xs Ss wr hC hH; have hxr := hA _ hC; simp [Rl.outAt, Rl.outR, go_sem, hxr.cell f0, hxr.cell f1]) ?_
      (conv => arg 8; simp only [List.nil_append, List.cons_append]); (conv => arg 9; intro xs; simp [Act.put]); refine Rl.RelW.quiet (fun _ => .int .i64 N) [] [] rfl rfl (fun _ _ _ => rfl) (by simp) (by simp) (by intro xs Ss wr hC hH; have hxr := hA _ hC; simp [Rl.outAt, Rl.outR, go_sem, True]) ?_
      (conv => arg 8; simp only [List.nil_append, List.cons_append]); (conv => arg 9; intro xs; simp [Act.put]); refine Rl.RelW.quiet (fun _ => .int .i64 (N.tdiv 5)) [] [] rfl rfl (fun _ _ _ => rfl) (by simp) (by simp) (by intro xs Ss wr hC hH; have hxr := hA _ hC; simp [Rl.outAt, Rl.outR, go_sem, hw3]) ?_
      (conv => arg 8; simp only [List.nil_append, List.cons_append]); (conv => arg 9; intro xs; simp [Act.put])
      refine Rl.RelW.callX (fun _ => .agg #[.int .i64 af.m, .int .i64 af.u]) [] [] rfl rfl (fun _ _ _ => rfl) (by simp) (by simp) ?_ ?_
      · intro xs Ss wq hC hH
        refine Rl.out_of_calls (by simp [go_sem]) ((GX.out wq).mono ?_)
        rintro r wq2 ⟨rfl, hq⟩
        exact ⟨_, rfl, rfl, hq⟩
      (conv => arg 8; simp only [List.nil_append, List.cons_append]); (conv => arg 9; intro xs; simp [Act.put]); refine Rl.RelW.quiet (fun _ => .agg #[.string ⟨#[97]⟩, .int .i64 bf.m, .int .i64 bf.u, .int .i64 af.m, .int .i64 af.u]) [] [] rfl rfl (fun _ _ _ => rfl) (by simp) (by simp) (by intro xs Ss wr hC hH; have hxr := hA _ hC; simp [Rl.outAt, Rl.outR, go_sem, True]) ?_
      (conv => arg 8; simp only [List.nil_append, List.cons_append]); (conv => arg 9; intro xs; simp [Act.put])
      refine Rl.RelW.step ⟨fun xs => xs 8, fun xs S w' => ∃ A c A' c', xs 8 = .tuple #[.agg #[.slice A y1.es.length c, .slice A' y1.ss.length c'], .int .i64 y2] ∧ (w'.ownsRow w4.heap.size 33 5 (.slice A y1.es.length c) y1.es.length (ens y1.es) ∧ w'.ownsRow w4.heap.size 69 2 (.slice A' y1.ss.length c') y1.ss.length (svl y1.ss)) ∧ (y1.es.length ≤ c ∧ y1.ss.length ≤ c') ∧ (∀ g, (Value.slice A y1.es.length c).ownBlock = some g → S g) ∧ (∀ g, (Value.slice A' y1.ss.length c').ownBlock = some g → S g), [], [], [], false⟩ rfl rfl ?_ ?_ (by simp) ?_ ?_
      · intro xs ys h
        have e := h 8 (by simp)
        exact ⟨e, fun S w h => by simp only at h ⊢; rw [← e]; exact h⟩
      · intro xs S w w' _ hG hS hk
        obtain ⟨A, c, A', c', e, ⟨o1, o2⟩, l1, s1, s2⟩ := hG
        exact ⟨A, c, A', c', e, ⟨Rl.own_kp o1 s1 hk, Rl.own_kp o2 s2 hk⟩, l1, s1, s2⟩
      · intro xs Ss wq hC hH
        have hq0 := (hA _ hC).size
        refine Rl.out_of_calls (by simp [go_sem]) ((RX.out wq (hx4.tr (hA _ hC))).mono ?_)
        rintro r wq2 ⟨v2, rfl, ⟨A2, c2, A3, c3, rfl, o1, o2, l1, l2⟩, hq⟩
        refine ⟨_, rfl, fun g => wq.heap.size ≤ g ∧ g < wq2.heap.size, ⟨.inr rfl, ?_⟩, Rl.Chg.of_ext hq, fun g hg => .inr hg⟩
        exact ⟨A2, c2, A3, c3, rfl, ⟨own_le o1 hq0, own_le o2 hq0⟩, ⟨l1, l2⟩, fun g hg => o1.lt g hg, fun g hg => o2.lt g hg⟩
      (conv => arg 8; simp only [List.nil_append, List.cons_append]); (conv => arg 9; intro xs; simp [Act.put])
      refine Rl.RelW.quiet (fun xs => xs 8) [8] [] rfl rfl (fun xs ys h => h 8 (by simp)) (by simp) (by simp) ?_ ?_
      · intro xs Ss wr hC hH
        simp [Rl.outAt, Rl.outR, go_sem]
      (conv => arg 8; simp only [List.nil_append, List.cons_append]); (conv => arg 9; intro xs; simp [Act.put])
      refine Rl.RelW.quiet (fun xs => tAt 0 (xs 8)) [8] [8] rfl rfl (fun xs ys h => by rw [h 8 (by simp)]) (by simp) (by simp) ?_ ?_
      · intro xs Ss wr hC hH
        obtain ⟨⟨A2, c2, A3, c3, e8, _⟩, _⟩ := hH.get (i := 8) (by simp) rfl
        simp [Rl.outAt, Rl.outR, go_sem, e8, tAt]
      (conv => arg 8; simp only [List.nil_append, List.cons_append]); (conv => arg 9; intro xs; simp [Act.put])
      refine Rl.RelW.quiet (fun _ => .int .i64 y2) [] [8] rfl rfl (fun _ _ _ => rfl) (by simp) (by simp) ?_ ?_
      · intro xs Ss wr hC hH
        obtain ⟨⟨A2, c2, A3, c3, e8, _⟩, _⟩ := hH.get (i := 8) (by simp) rfl
        simp [Rl.outAt, Rl.outR, go_sem, e8]
      (conv => arg 8; simp only [List.nil_append, List.cons_append]); (conv => arg 9; intro xs; simp [Act.put])
      refine Rl.RelW.box (fun g => .pointer (some ⟨g, 0, none⟩)) 31 (fun _ => #[.slice none 0 0, .slice none 0 0]) [] [] rfl rfl (by simp) (by simp) (fun _ _ _ => rfl) ?_ ?_
      · intro xs Ss wr hC hH
        simp [Rl.outAt, Rl.outR, go_sem]
      (conv => arg 8; simp only [List.nil_append, List.cons_append]); (conv => arg 9; intro xs; simp [Act.put])
      refine Rl.RelW.step ⟨fun _ => undef, fun xs S w => ∃ g, xs 12 = .pointer (some ⟨g, 0, none⟩) ∧ Blk w g 31 (aggOf (tAt 0 (xs 8))) ∧ S g, [12, 8], [8], [12], false⟩ rfl rfl ?_ ?_ (by simp) ?_ ?_
      · intro xs ys h
        refine ⟨rfl, fun S w hG => ?_⟩
        simp only at hG ⊢
        rw [← h 12 (by simp), ← h 8 (by simp)]; exact hG
      · intro xs S w w' _ hG hS hk
        obtain ⟨g, hg1, hg2, hg3⟩ := hG
        exact ⟨g, hg1, Rl.blk_kp hg2 hg3 hk, hg3⟩
      · intro xs Ss wr hC hH
        obtain ⟨⟨g, hg, hb, hSg⟩, _⟩ := hH.get (i := 12) (by simp) rfl
        obtain ⟨⟨A2, c2, A3, c3, e8, _⟩, _⟩ := hH.get (i := 8) (by simp) rfl
        have f0 := hb.frozen 0
        have f1 := hb.frozen 1
        obtain ⟨q0, q1⟩ := hb.c2
        simp [Rl.outAt, Rl.outR, go_sem, hg, e8, tAt, f0, f1, q0, q1]
        refine ⟨fun i => i = g, ⟨g, hg, ?_, rfl⟩, Rl.Chg.of_grown (Only.rf.set2 _ _) (fun i hi => by cases hi; exact hSg), fun i hi => .inl (by rw [hi]; exact hSg)⟩
        have h := hb.set2 (.slice A2 y1.es.length c2) (.slice A3 y1.ss.length c3)
        rw [show Rl.upd xs 13 undef 8 = _ from e8]
        exact h
      (conv => arg 8; simp only [List.nil_append, List.cons_append]); (conv => arg 9; intro xs; simp [Act.put]); refine Rl.RelW.quiet (fun _ => .int .i64 y2) [] [] rfl rfl (fun _ _ _ => rfl) (by simp) (by simp) (by intro xs Ss wr hC hH; have hxr := hA _ hC; simp [Rl.outAt, Rl.outR, go_sem, True]) ?_
      (conv => arg 8; simp only [List.nil_append, List.cons_append]); (conv => arg 9; intro xs; simp [Act.put])
      refine ⟨by kernel_rfl, ?_⟩
      intro xs Ss wq hC hF hD
      obtain ⟨⟨A2, c2, A3, c3, e8, ⟨o1, o2⟩, ⟨l1, l2⟩, _⟩, _⟩ := hF 8 (by decide) (by kernel_rfl)
      obtain ⟨⟨g, hg, bS, _⟩, hb13⟩ := hF 13 (by decide) (by kernel_rfl)
      clear hF hD
      have hxq := hA wq hC
      (try simp only [Nat.reduceAdd, Nat.zero_add] at e8 hg bS o1 o2)
      rw [e8] at bS
      change Blk wq g _ #[.slice A2 y1.es.length c2, .slice A3 y1.ss.length c3] at bS
      have hl3 : LgOwn wq 0 (.agg #[.slice A2 y1.es.length c2, .slice A3 y1.ss.length c3]) y1 := ⟨A2, c2, A3, c3, rfl, own_le o1 (Nat.zero_le _), own_le o2 (Nat.zero_le _), l1, l2⟩
      replace bR := bR.ext hxq
      replace b1 := b1.ext hxq
      have hxx := hx4.tr hxq
      clear hA hC RX GX HX o1 o2
      dsimp only
      rw [e8, hg]
      simp only [tAt]
      clear e8 hg
      obtain ⟨s0, s1⟩ := bS.c2
      obtain ⟨f0, f1⟩ := b1.c2
      obtain ⟨g0, g1⟩ := bR.c2
      have m0 := bR.frozen 0
      have m1 := bR.frozen 1
      go_wp2_with fail
      · rename_i hb
        have hy : y2 = 0 := by simpa using hb
        obtain ⟨d0, d1⟩ := (bR.set2 (.slice A2 y1.es.length c2) (.slice A3 y1.ss.length c3)).c2
        refine bodyPost_ret (v := .agg #[.slice A2 y1.es.length c2, .slice A3 y1.ss.length c3]) (by simp [results, Try.results30, go_sem, d0, d1]) rfl ?_
        rw [HF.out, if_pos hy]
        exact ⟨_, rfl, hl3.only bR (Only.rf.set2 _ _) (by decide) (by decide), (hxx.setCell (p := ⟨w.heap.size + 1, 0, none⟩) (by simp only; omega) _).setCell (p := ⟨w.heap.size + 1, 1, none⟩) (by simp only; omega) _⟩
      · rename_i hb
        have hy : ¬ y2 = 0 := by simpa using hb
        obtain ⟨d0, d1⟩ := (bR.set2 (.slice A x.es.length c) (.slice A' x.ss.length c')).c2
        refine bodyPost_ret (v := .agg #[.slice A x.es.length c, .slice A' x.ss.length c']) (by simp [results, Try.results30, go_sem, d0, d1]) rfl ?_
        rw [HF.out, if_neg hy]
        exact ⟨_, rfl, (HV.out.ext hxx).only bR (Only.rf.set2 _ _) (by decide) (by decide), (hxx.setCell (p := ⟨w.heap.size + 1, 0, none⟩) (by simp only; omega) _).setCell (p := ⟨w.heap.size + 1, 1, none⟩) (by simp only; omega) _⟩
    · skip
      skip
      rw [h5] at RX HX HF hem
      replace hem := hem.symm
      rw [show CL.nmOf _ = [98] from rfl] at RX HX HF
      generalize CL.rcd x ⟨[98], bf, af⟩ = y at *
      obtain ⟨y1, y2⟩ := y
      go_wp2_with (first
        | (go_at_call 29; (with_reducible refine (MX.out _).mono ?_); rintro r w2 ⟨rfl, rfl⟩)
        | (go_at_call 35; (with_reducible refine (HX.out _ (hx0.tr (Ext.new _ _))).mono ?_); rintro r w3 ⟨rfl, hx3⟩; (replace hx3 := Ext.tr (Ext.new _ _) hx3); (replace hx3 := (show Ext W w3 from hx3).tr (Ext.new w3 (.cells #[.int .i64 bf.m, .int .i64 bf.u] 23))); (have bF := Blk.new w3 23 #[.int .i64 bf.m, .int .i64 bf.u]); (replace bR := bR.ext hx3); (replace b1 := b1.ext hx3))
        | go_in)
      generalize (w3.alloc (.cells #[.int .i64 bf.m, .int .i64 bf.u] 23)) = w4 at *
      obtain ⟨f0, f1⟩ := bF.c2
      obtain ⟨k0, k1⟩ := b1.c2
      have hx4 := hx0.tr hx3
      refine Rl.wp_region_rel (fun _ => False) (fun _ h => h.elim) (by kernel_rfl) (by kernel_rfl) (by kernel_rfl) ?_
      have hA : ∀ wr, Rl.Chg (fun _ => False) w4 wr → Ext w4 wr := fun wr h => h.ext (fun _ h => h)
      (conv => arg 8; simp only [List.nil_append, List.cons_append]); (conv => arg 9; intro xs; simp [Act.put]); refine Rl.RelW.quiet (fun _ => .agg #[.slice A x.es.length c, .slice A' x.ss.length c']) [] [] rfl rfl (fun _ _ _ => rfl) (by simp) (by simp) (by intro xs Ss wr hC hH; have hxr := hA _ hC; simp [Rl.outAt, Rl.outR, go_sem, hxr.cell k0, hxr.cell k1]) ?_
      (conv => arg 8; simp only [List.nil_append, List.cons_append]); (conv => arg 9; intro xs; simp [Act.put]); refine Rl.RelW.quiet (fun _ => .string ⟨#[98]⟩) [] [] rfl rfl (fun _ _ _ => rfl) (by simp) (by simp) (by intro xs Ss wr hC hH; have hxr := hA _ hC; simp [Rl.outAt, Rl.outR, go_sem, True]) ?_
      (conv => arg 8; simp only [List.nil_append, List.cons_append]); (conv => arg 9; intro xs; simp [Act.put]); refine Rl.RelW.quiet (fun _ => .agg #[.int .i64 bf.m, .int .i64 bf.u]) [] [] rfl rfl (fun _ _ _ => rfl) (by simp) (by simp) (by intro xs Ss wr hC hH; have hxr := hA _ hC; simp [Rl.outAt, Rl.outR, go_sem, hxr.cell f0, hxr.cell f1]) ?_
      (conv => arg 8; simp only [List.nil_append, List.cons_append]); (conv => arg 9; intro xs; simp [Act.put]); refine Rl.RelW.quiet (fun _ => .agg #[.int .i64 bf.m, .int .i64 bf.u]) [] [] rfl rfl (fun _ _ _ => rfl) (by simp) (by simp) (by intro xs Ss wr hC hH; have hxr := hA _ hC; simp [Rl.outAt, Rl.outR, go_sem, hxr.cell f0, hxr.cell f1]) ?_
      (conv => arg 8; simp only [List.nil_append, List.cons_append]); (conv => arg 9; intro xs; simp [Act.put]); refine Rl.RelW.quiet (fun _ => .int .i64 N) [] [] rfl rfl (fun _ _ _ => rfl) (by simp) (by simp) (by intro xs Ss wr hC hH; have hxr := hA _ hC; simp [Rl.outAt, Rl.outR, go_sem, True]) ?_
      (conv => arg 8; simp only [List.nil_append, List.cons_append]); (conv => arg 9; intro xs; simp [Act.put]); refine Rl.RelW.quiet (fun _ => .int .i64 (N.tdiv 5)) [] [] rfl rfl (fun _ _ _ => rfl) (by simp) (by simp) (by intro xs Ss wr hC hH; have hxr := hA _ hC; simp [Rl.outAt, Rl.outR, go_sem, hw3]) ?_
      (conv => arg 8; simp only [List.nil_append, List.cons_append]); (conv => arg 9; intro xs; simp [Act.put])
      refine Rl.RelW.callX (fun _ => .agg #[.int .i64 af.m, .int .i64 af.u]) [] [] rfl rfl (fun _ _ _ => rfl) (by simp) (by simp) ?_ ?_
      · intro xs Ss wq hC hH
        refine Rl.out_of_calls (by simp [go_sem]) ((GX.out wq).mono ?_)
        rintro r wq2 ⟨rfl, hq⟩
        exact ⟨_, rfl, rfl, hq⟩
      (conv => arg 8; simp only [List.nil_append, List.cons_append]); (conv => arg 9; intro xs; simp [Act.put]); refine Rl.RelW.quiet (fun _ => .agg #[.string ⟨#[98]⟩, .int .i64 bf.m, .int .i64 bf.u, .int .i64 af.m, .int .i64 af.u]) [] [] rfl rfl (fun _ _ _ => rfl) (by simp) (by simp) (by intro xs Ss wr hC hH; have hxr := hA _ hC; simp [Rl.outAt, Rl.outR, go_sem, True]) ?_
      (conv => arg 8; simp only [List.nil_append, List.cons_append]); (conv => arg 9; intro xs; simp [Act.put])
      refine Rl.RelW.step ⟨fun xs => xs 8, fun xs S w' => ∃ A c A' c', xs 8 = .tuple #[.agg #[.slice A y1.es.length c, .slice A' y1.ss.length c'], .int .i64 y2] ∧ (w'.ownsRow w4.heap.size 33 5 (.slice A y1.es.length c) y1.es.length (ens y1.es) ∧ w'.ownsRow w4.heap.size 69 2 (.slice A' y1.ss.length c') y1.ss.length (svl y1.ss)) ∧ (y1.es.length ≤ c ∧ y1.ss.length ≤ c') ∧ (∀ g, (Value.slice A y1.es.length c).ownBlock = some g → S g) ∧ (∀ g, (Value.slice A' y1.ss.length c').ownBlock = some g → S g), [], [], [], false⟩ rfl rfl ?_ ?_ (by simp) ?_ ?_
      · intro xs ys h
        have e := h 8 (by simp)
        exact ⟨e, fun S w h => by simp only at h ⊢; rw [← e]; exact h⟩
      · intro xs S w w' _ hG hS hk
        obtain ⟨A, c, A', c', e, ⟨o1, o2⟩, l1, s1, s2⟩ := hG
        exact ⟨A, c, A', c', e, ⟨Rl.own_kp o1 s1 hk, Rl.own_kp o2 s2 hk⟩, l1, s1, s2⟩
      · intro xs Ss wq hC hH
        have hq0 := (hA _ hC).size
        refine Rl.out_of_calls (by simp [go_sem]) ((RX.out wq (hx4.tr (hA _ hC))).mono ?_)
        rintro r wq2 ⟨v2, rfl, ⟨A2, c2, A3, c3, rfl, o1, o2, l1, l2⟩, hq⟩
        refine ⟨_, rfl, fun g => wq.heap.size ≤ g ∧ g < wq2.heap.size, ⟨.inr rfl, ?_⟩, Rl.Chg.of_ext hq, fun g hg => .inr hg⟩
        exact ⟨A2, c2, A3, c3, rfl, ⟨own_le o1 hq0, own_le o2 hq0⟩, ⟨l1, l2⟩, fun g hg => o1.lt g hg, fun g hg => o2.lt g hg⟩
      (conv => arg 8; simp only [List.nil_append, List.cons_append]); (conv => arg 9; intro xs; simp [Act.put])
      refine Rl.RelW.quiet (fun xs => xs 8) [8] [] rfl rfl (fun xs ys h => h 8 (by simp)) (by simp) (by simp) ?_ ?_
      · intro xs Ss wr hC hH
        simp [Rl.outAt, Rl.outR, go_sem]
      (conv => arg 8; simp only [List.nil_append, List.cons_append]); (conv => arg 9; intro xs; simp [Act.put])
      refine Rl.RelW.quiet (fun xs => tAt 0 (xs 8)) [8] [8] rfl rfl (fun xs ys h => by rw [h 8 (by simp)]) (by simp) (by simp) ?_ ?_
      · intro xs Ss wr hC hH
        obtain ⟨⟨A2, c2, A3, c3, e8, _⟩, _⟩ := hH.get (i := 8) (by simp) rfl
        simp [Rl.outAt, Rl.outR, go_sem, e8, tAt]
      (conv => arg 8; simp only [List.nil_append, List.cons_append]); (conv => arg 9; intro xs; simp [Act.put])
      refine Rl.RelW.quiet (fun _ => .int .i64 y2) [] [8] rfl rfl (fun _ _ _ => rfl) (by simp) (by simp) ?_ ?_
      · intro xs Ss wr hC hH
        obtain ⟨⟨A2, c2, A3, c3, e8, _⟩, _⟩ := hH.get (i := 8) (by simp) rfl
        simp [Rl.outAt, Rl.outR, go_sem, e8]
      (conv => arg 8; simp only [List.nil_append, List.cons_append]); (conv => arg 9; intro xs; simp [Act.put])
      refine Rl.RelW.box (fun g => .pointer (some ⟨g, 0, none⟩)) 31 (fun _ => #[.slice none 0 0, .slice none 0 0]) [] [] rfl rfl (by simp) (by simp) (fun _ _ _ => rfl) ?_ ?_
      · intro xs Ss wr hC hH
        simp [Rl.outAt, Rl.outR, go_sem]
      (conv => arg 8; simp only [List.nil_append, List.cons_append]); (conv => arg 9; intro xs; simp [Act.put])
      refine Rl.RelW.step ⟨fun _ => undef, fun xs S w => ∃ g, xs 12 = .pointer (some ⟨g, 0, none⟩) ∧ Blk w g 31 (aggOf (tAt 0 (xs 8))) ∧ S g, [12, 8], [8], [12], false⟩ rfl rfl ?_ ?_ (by simp) ?_ ?_
      · intro xs ys h
        refine ⟨rfl, fun S w hG => ?_⟩
        simp only at hG ⊢
        rw [← h 12 (by simp), ← h 8 (by simp)]; exact hG
      · intro xs S w w' _ hG hS hk
        obtain ⟨g, hg1, hg2, hg3⟩ := hG
        exact ⟨g, hg1, Rl.blk_kp hg2 hg3 hk, hg3⟩
      · intro xs Ss wr hC hH
        obtain ⟨⟨g, hg, hb, hSg⟩, _⟩ := hH.get (i := 12) (by simp) rfl
        obtain ⟨⟨A2, c2, A3, c3, e8, _⟩, _⟩ := hH.get (i := 8) (by simp) rfl
        have f0 := hb.frozen 0
        have f1 := hb.frozen 1
        obtain ⟨q0, q1⟩ := hb.c2
        simp [Rl.outAt, Rl.outR, go_sem, hg, e8, tAt, f0, f1, q0, q1]
        refine ⟨fun i => i = g, ⟨g, hg, ?_, rfl⟩, Rl.Chg.of_grown (Only.rf.set2 _ _) (fun i hi => by cases hi; exact hSg), fun i hi => .inl (by rw [hi]; exact hSg)⟩
        have h := hb.set2 (.slice A2 y1.es.length c2) (.slice A3 y1.ss.length c3)
        rw [show Rl.upd xs 13 undef 8 = _ from e8]
        exact h
      (conv => arg 8; simp only [List.nil_append, List.cons_append]); (conv => arg 9; intro xs; simp [Act.put]); refine Rl.RelW.quiet (fun _ => .int .i64 y2) [] [] rfl rfl (fun _ _ _ => rfl) (by simp) (by simp) (by intro xs Ss wr hC hH; have hxr := hA _ hC; simp [Rl.outAt, Rl.outR, go_sem, True]) ?_
      (conv => arg 8; simp only [List.nil_append, List.cons_append]); (conv => arg 9; intro xs; simp [Act.put])
      refine ⟨by kernel_rfl, ?_⟩
      intro xs Ss wq hC hF hD
      obtain ⟨⟨A2, c2, A3, c3, e8, ⟨o1, o2⟩, ⟨l1, l2⟩, _⟩, _⟩ := hF 8 (by decide) (by kernel_rfl)
      obtain ⟨⟨g, hg, bS, _⟩, hb13⟩ := hF 13 (by decide) (by kernel_rfl)
      clear hF hD
      have hxq := hA wq hC
      (try simp only [Nat.reduceAdd, Nat.zero_add] at e8 hg bS o1 o2)
      rw [e8] at bS
      change Blk wq g _ #[.slice A2 y1.es.length c2, .slice A3 y1.ss.length c3] at bS
      have hl3 : LgOwn wq 0 (.agg #[.slice A2 y1.es.length c2, .slice A3 y1.ss.length c3]) y1 := ⟨A2, c2, A3, c3, rfl, own_le o1 (Nat.zero_le _), own_le o2 (Nat.zero_le _), l1, l2⟩
      replace bR := bR.ext hxq
      replace b1 := b1.ext hxq
      have hxx := hx4.tr hxq
      clear hA hC RX GX HX o1 o2
      dsimp only
      rw [e8, hg]
      simp only [tAt]
      clear e8 hg
      obtain ⟨s0, s1⟩ := bS.c2
      obtain ⟨f0, f1⟩ := b1.c2
      obtain ⟨g0, g1⟩ := bR.c2
      have m0 := bR.frozen 0
      have m1 := bR.frozen 1
      go_wp2_with fail
      · rename_i hb
        have hy : y2 = 0 := by simpa using hb
        obtain ⟨d0, d1⟩ := (bR.set2 (.slice A2 y1.es.length c2) (.slice A3 y1.ss.length c3)).c2
        refine bodyPost_ret (v := .agg #[.slice A2 y1.es.length c2, .slice A3 y1.ss.length c3]) (by simp [results, Try.results30, go_sem, d0, d1]) rfl ?_
        rw [HF.out, if_pos hy]
        exact ⟨_, rfl, hl3.only bR (Only.rf.set2 _ _) (by decide) (by decide), (hxx.setCell (p := ⟨w.heap.size + 1, 0, none⟩) (by simp only; omega) _).setCell (p := ⟨w.heap.size + 1, 1, none⟩) (by simp only; omega) _⟩
      · rename_i hb
        have hy : ¬ y2 = 0 := by simpa using hb
        obtain ⟨d0, d1⟩ := (bR.set2 (.slice A x.es.length c) (.slice A' x.ss.length c')).c2
        refine bodyPost_ret (v := .agg #[.slice A x.es.length c, .slice A' x.ss.length c']) (by simp [results, Try.results30, go_sem, d0, d1]) rfl ?_
        rw [HF.out, if_neg hy]
        exact ⟨_, rfl, (HV.out.ext hxx).only bR (Only.rf.set2 _ _) (by decide) (by decide), (hxx.setCell (p := ⟨w.heap.size + 1, 0, none⟩) (by simp only; omega) _).setCell (p := ⟨w.heap.size + 1, 1, none⟩) (by simp only; omega) _⟩
    · skip
      skip
      rw [h5] at RX HX HF hem
      replace hem := hem.symm
      rw [show CL.nmOf _ = [99] from rfl] at RX HX HF
      generalize CL.rcd x ⟨[99], bf, af⟩ = y at *
      obtain ⟨y1, y2⟩ := y
      go_wp2_with (first
        | (go_at_call 29; (with_reducible refine (MX.out _).mono ?_); rintro r w2 ⟨rfl, rfl⟩)
        | (go_at_call 35; (with_reducible refine (HX.out _ (hx0.tr (Ext.new _ _))).mono ?_); rintro r w3 ⟨rfl, hx3⟩; (replace hx3 := Ext.tr (Ext.new _ _) hx3); (replace hx3 := (show Ext W w3 from hx3).tr (Ext.new w3 (.cells #[.int .i64 bf.m, .int .i64 bf.u] 23))); (have bF := Blk.new w3 23 #[.int .i64 bf.m, .int .i64 bf.u]); (replace bR := bR.ext hx3); (replace b1 := b1.ext hx3))
        | go_in)
      generalize (w3.alloc (.cells #[.int .i64 bf.m, .int .i64 bf.u] 23)) = w4 at *
      obtain ⟨f0, f1⟩ := bF.c2
      obtain ⟨k0, k1⟩ := b1.c2
      have hx4 := hx0.tr hx3
      refine Rl.wp_region_rel (fun _ => False) (fun _ h => h.elim) (by kernel_rfl) (by kernel_rfl) (by kernel_rfl) ?_
      have hA : ∀ wr, Rl.Chg (fun _ => False) w4 wr → Ext w4 wr := fun wr h => h.ext (fun _ h => h)
      (conv => arg 8; simp only [List.nil_append, List.cons_append]); (conv => arg 9; intro xs; simp [Act.put]); refine Rl.RelW.quiet (fun _ => .agg #[.slice A x.es.length c, .slice A' x.ss.length c']) [] [] rfl rfl (fun _ _ _ => rfl) (by simp) (by simp) (by intro xs Ss wr hC hH; have hxr := hA _ hC; simp [Rl.outAt, Rl.outR, go_sem, hxr.cell k0, hxr.cell k1]) ?_
      (conv => arg 8; simp only [List.nil_append, List.cons_append]); (conv => arg 9; intro xs; simp [Act.put]); refine Rl.RelW.quiet (fun _ => .string ⟨#[99]⟩) [] [] rfl rfl (fun _ _ _ => rfl) (by simp) (by simp) (by intro xs Ss wr hC hH; have hxr := hA _ hC; simp [Rl.outAt, Rl.outR, go_sem, True]) ?_
      (conv => arg 8; simp only [List.nil_append, List.cons_append]); (conv => arg 9; intro xs; simp [Act.put]); refine Rl.RelW.quiet (fun _ => .agg #[.int .i64 bf.m, .int .i64 bf.u]) [] [] rfl rfl (fun _ _ _ => rfl) (by simp) (by simp) (by intro xs Ss wr hC hH; have hxr := hA _ hC; simp [Rl.outAt, Rl.outR, go_sem, hxr.cell f0, hxr.cell f1]) ?_
      (conv => arg 8; simp only [List.nil_append, List.cons_append]); (conv => arg 9; intro xs; simp [Act.put]); refine Rl.RelW.quiet (fun _ => .agg #[.int .i64 bf.m, .int .i64 bf.u]) [] [] rfl rfl (fun _ _ _ => rfl) (by simp) (by simp) (by intro xs Ss wr hC hH; have hxr := hA _ hC; simp [Rl.outAt, Rl.outR, go_sem, hxr.cell f0, hxr.cell f1]) ?_
      (conv => arg 8; simp only [List.nil_append, List.cons_append]); (conv => arg 9; intro xs; simp [Act.put]); refine Rl.RelW.quiet (fun _ => .int .i64 N) [] [] rfl rfl (fun _ _ _ => rfl) (by simp) (by simp) (by intro xs Ss wr hC hH; have hxr := hA _ hC; simp [Rl.outAt, Rl.outR, go_sem, True]) ?_
      (conv => arg 8; simp only [List.nil_append, List.cons_append]); (conv => arg 9; intro xs; simp [Act.put]); refine Rl.RelW.quiet (fun _ => .int .i64 (N.tdiv 5)) [] [] rfl rfl (fun _ _ _ => rfl) (by simp) (by simp) (by intro xs Ss wr hC hH; have hxr := hA _ hC; simp [Rl.outAt, Rl.outR, go_sem, hw3]) ?_
      (conv => arg 8; simp only [List.nil_append, List.cons_append]); (conv => arg 9; intro xs; simp [Act.put])
      refine Rl.RelW.callX (fun _ => .agg #[.int .i64 af.m, .int .i64 af.u]) [] [] rfl rfl (fun _ _ _ => rfl) (by simp) (by simp) ?_ ?_
      · intro xs Ss wq hC hH
        refine Rl.out_of_calls (by simp [go_sem]) ((GX.out wq).mono ?_)
        rintro r wq2 ⟨rfl, hq⟩
        exact ⟨_, rfl, rfl, hq⟩
      (conv => arg 8; simp only [List.nil_append, List.cons_append]); (conv => arg 9; intro xs; simp [Act.put]); refine Rl.RelW.quiet (fun _ => .agg #[.string ⟨#[99]⟩, .int .i64 bf.m, .int .i64 bf.u, .int .i64 af.m, .int .i64 af.u]) [] [] rfl rfl (fun _ _ _ => rfl) (by simp) (by simp) (by intro xs Ss wr hC hH; have hxr := hA _ hC; simp [Rl.outAt, Rl.outR, go_sem, True]) ?_
      (conv => arg 8; simp only [List.nil_append, List.cons_append]); (conv => arg 9; intro xs; simp [Act.put])
      refine Rl.RelW.step ⟨fun xs => xs 8, fun xs S w' => ∃ A c A' c', xs 8 = .tuple #[.agg #[.slice A y1.es.length c, .slice A' y1.ss.length c'], .int .i64 y2] ∧ (w'.ownsRow w4.heap.size 33 5 (.slice A y1.es.length c) y1.es.length (ens y1.es) ∧ w'.ownsRow w4.heap.size 69 2 (.slice A' y1.ss.length c') y1.ss.length (svl y1.ss)) ∧ (y1.es.length ≤ c ∧ y1.ss.length ≤ c') ∧ (∀ g, (Value.slice A y1.es.length c).ownBlock = some g → S g) ∧ (∀ g, (Value.slice A' y1.ss.length c').ownBlock = some g → S g), [], [], [], false⟩ rfl rfl ?_ ?_ (by simp) ?_ ?_
      · intro xs ys h
        have e := h 8 (by simp)
        exact ⟨e, fun S w h => by simp only at h ⊢; rw [← e]; exact h⟩
      · intro xs S w w' _ hG hS hk
        obtain ⟨A, c, A', c', e, ⟨o1, o2⟩, l1, s1, s2⟩ := hG
        exact ⟨A, c, A', c', e, ⟨Rl.own_kp o1 s1 hk, Rl.own_kp o2 s2 hk⟩, l1, s1, s2⟩
      · intro xs Ss wq hC hH
        have hq0 := (hA _ hC).size
        refine Rl.out_of_calls (by simp [go_sem]) ((RX.out wq (hx4.tr (hA _ hC))).mono ?_)
        rintro r wq2 ⟨v2, rfl, ⟨A2, c2, A3, c3, rfl, o1, o2, l1, l2⟩, hq⟩
        refine ⟨_, rfl, fun g => wq.heap.size ≤ g ∧ g < wq2.heap.size, ⟨.inr rfl, ?_⟩, Rl.Chg.of_ext hq, fun g hg => .inr hg⟩
        exact ⟨A2, c2, A3, c3, rfl, ⟨own_le o1 hq0, own_le o2 hq0⟩, ⟨l1, l2⟩, fun g hg => o1.lt g hg, fun g hg => o2.lt g hg⟩
      (conv => arg 8; simp only [List.nil_append, List.cons_append]); (conv => arg 9; intro xs; simp [Act.put])
      refine Rl.RelW.quiet (fun xs => xs 8) [8] [] rfl rfl (fun xs ys h => h 8 (by simp)) (by simp) (by simp) ?_ ?_
      · intro xs Ss wr hC hH
        simp [Rl.outAt, Rl.outR, go_sem]
      (conv => arg 8; simp only [List.nil_append, List.cons_append]); (conv => arg 9; intro xs; simp [Act.put])
      refine Rl.RelW.quiet (fun xs => tAt 0 (xs 8)) [8] [8] rfl rfl (fun xs ys h => by rw [h 8 (by simp)]) (by simp) (by simp) ?_ ?_
      · intro xs Ss wr hC hH
        obtain ⟨⟨A2, c2, A3, c3, e8, _⟩, _⟩ := hH.get (i := 8) (by simp) rfl
        simp [Rl.outAt, Rl.outR, go_sem, e8, tAt]
      (conv => arg 8; simp only [List.nil_append, List.cons_append]); (conv => arg 9; intro xs; simp [Act.put])
      refine Rl.RelW.quiet (fun _ => .int .i64 y2) [] [8] rfl rfl (fun _ _ _ => rfl) (by simp) (by simp) ?_ ?_
      · intro xs Ss wr hC hH
        obtain ⟨⟨A2, c2, A3, c3, e8, _⟩, _⟩ := hH.get (i := 8) (by simp) rfl
        simp [Rl.outAt, Rl.outR, go_sem, e8]
      (conv => arg 8; simp only [List.nil_append, List.cons_append]); (conv => arg 9; intro xs; simp [Act.put])
      refine Rl.RelW.box (fun g => .pointer (some ⟨g, 0, none⟩)) 31 (fun _ => #[.slice none 0 0, .slice none 0 0]) [] [] rfl rfl (by simp) (by simp) (fun _ _ _ => rfl) ?_ ?_
      · intro xs Ss wr hC hH
        simp [Rl.outAt, Rl.outR, go_sem]
      (conv => arg 8; simp only [List.nil_append, List.cons_append]); (conv => arg 9; intro xs; simp [Act.put])
      refine Rl.RelW.step ⟨fun _ => undef, fun xs S w => ∃ g, xs 12 = .pointer (some ⟨g, 0, none⟩) ∧ Blk w g 31 (aggOf (tAt 0 (xs 8))) ∧ S g, [12, 8], [8], [12], false⟩ rfl rfl ?_ ?_ (by simp) ?_ ?_
      · intro xs ys h
        refine ⟨rfl, fun S w hG => ?_⟩
        simp only at hG ⊢
        rw [← h 12 (by simp), ← h 8 (by simp)]; exact hG
      · intro xs S w w' _ hG hS hk
        obtain ⟨g, hg1, hg2, hg3⟩ := hG
        exact ⟨g, hg1, Rl.blk_kp hg2 hg3 hk, hg3⟩
      · intro xs Ss wr hC hH
        obtain ⟨⟨g, hg, hb, hSg⟩, _⟩ := hH.get (i := 12) (by simp) rfl
        obtain ⟨⟨A2, c2, A3, c3, e8, _⟩, _⟩ := hH.get (i := 8) (by simp) rfl
        have f0 := hb.frozen 0
        have f1 := hb.frozen 1
        obtain ⟨q0, q1⟩ := hb.c2
        simp [Rl.outAt, Rl.outR, go_sem, hg, e8, tAt, f0, f1, q0, q1]
        refine ⟨fun i => i = g, ⟨g, hg, ?_, rfl⟩, Rl.Chg.of_grown (Only.rf.set2 _ _) (fun i hi => by cases hi; exact hSg), fun i hi => .inl (by rw [hi]; exact hSg)⟩
        have h := hb.set2 (.slice A2 y1.es.length c2) (.slice A3 y1.ss.length c3)
        rw [show Rl.upd xs 13 undef 8 = _ from e8]
        exact h
      (conv => arg 8; simp only [List.nil_append, List.cons_append]); (conv => arg 9; intro xs; simp [Act.put]); refine Rl.RelW.quiet (fun _ => .int .i64 y2) [] [] rfl rfl (fun _ _ _ => rfl) (by simp) (by simp) (by intro xs Ss wr hC hH; have hxr := hA _ hC; simp [Rl.outAt, Rl.outR, go_sem, True]) ?_
      (conv => arg 8; simp only [List.nil_append, List.cons_append]); (conv => arg 9; intro xs; simp [Act.put])
      refine ⟨by kernel_rfl, ?_⟩
      intro xs Ss wq hC hF hD
      obtain ⟨⟨A2, c2, A3, c3, e8, ⟨o1, o2⟩, ⟨l1, l2⟩, _⟩, _⟩ := hF 8 (by decide) (by kernel_rfl)
      obtain ⟨⟨g, hg, bS, _⟩, hb13⟩ := hF 13 (by decide) (by kernel_rfl)
      clear hF hD
      have hxq := hA wq hC
      (try simp only [Nat.reduceAdd, Nat.zero_add] at e8 hg bS o1 o2)
      rw [e8] at bS
      change Blk wq g _ #[.slice A2 y1.es.length c2, .slice A3 y1.ss.length c3] at bS
      have hl3 : LgOwn wq 0 (.agg #[.slice A2 y1.es.length c2, .slice A3 y1.ss.length c3]) y1 := ⟨A2, c2, A3, c3, rfl, own_le o1 (Nat.zero_le _), own_le o2 (Nat.zero_le _), l1, l2⟩
      replace bR := bR.ext hxq
      replace b1 := b1.ext hxq
      have hxx := hx4.tr hxq
      clear hA hC RX GX HX o1 o2
      dsimp only
      rw [e8, hg]
      simp only [tAt]
      clear e8 hg
      obtain ⟨s0, s1⟩ := bS.c2
      obtain ⟨f0, f1⟩ := b1.c2
      obtain ⟨g0, g1⟩ := bR.c2
      have m0 := bR.frozen 0
      have m1 := bR.frozen 1
      go_wp2_with fail
      · rename_i hb
        have hy : y2 = 0 := by simpa using hb
        obtain ⟨d0, d1⟩ := (bR.set2 (.slice A2 y1.es.length c2) (.slice A3 y1.ss.length c3)).c2
        refine bodyPost_ret (v := .agg #[.slice A2 y1.es.length c2, .slice A3 y1.ss.length c3]) (by simp [results, Try.results30, go_sem, d0, d1]) rfl ?_
        rw [HF.out, if_pos hy]
        exact ⟨_, rfl, hl3.only bR (Only.rf.set2 _ _) (by decide) (by decide), (hxx.setCell (p := ⟨w.heap.size + 1, 0, none⟩) (by simp only; omega) _).setCell (p := ⟨w.heap.size + 1, 1, none⟩) (by simp only; omega) _⟩
      · rename_i hb
        have hy : ¬ y2 = 0 := by simpa using hb
        obtain ⟨d0, d1⟩ := (bR.set2 (.slice A x.es.length c) (.slice A' x.ss.length c')).c2
        refine bodyPost_ret (v := .agg #[.slice A x.es.length c, .slice A' x.ss.length c']) (by simp [results, Try.results30, go_sem, d0, d1]) rfl ?_
        rw [HF.out, if_neg hy]
        exact ⟨_, rfl, (HV.out.ext hxx).only bR (Only.rf.set2 _ _) (by decide) (by decide), (hxx.setCell (p := ⟨w.heap.size + 1, 0, none⟩) (by simp only; omega) _).setCell (p := ⟨w.heap.size + 1, 1, none⟩) (by simp only; omega) _⟩
    · skip
      skip
      rw [h5] at RX HX HF hem
      replace hem := hem.symm
      rw [show CL.nmOf _ = [112] from rfl] at RX HX HF
      generalize CL.rcd x ⟨[112], bf, af⟩ = y at *
      obtain ⟨y1, y2⟩ := y
      go_wp2_with (first
        | (go_at_call 29; (with_reducible refine (MX.out _).mono ?_); rintro r w2 ⟨rfl, rfl⟩)
        | (go_at_call 35; (with_reducible refine (HX.out _ (hx0.tr (Ext.new _ _))).mono ?_); rintro r w3 ⟨rfl, hx3⟩; (replace hx3 := Ext.tr (Ext.new _ _) hx3); (replace hx3 := (show Ext W w3 from hx3).tr (Ext.new w3 (.cells #[.int .i64 bf.m, .int .i64 bf.u] 23))); (have bF := Blk.new w3 23 #[.int .i64 bf.m, .int .i64 bf.u]); (replace bR := bR.ext hx3); (replace b1 := b1.ext hx3))
        | go_in)
      generalize (w3.alloc (.cells #[.int .i64 bf.m, .int .i64 bf.u] 23)) = w4 at *
      obtain ⟨f0, f1⟩ := bF.c2
      obtain ⟨k0, k1⟩ := b1.c2
      have hx4 := hx0.tr hx3
      refine Rl.wp_region_rel (fun _ => False) (fun _ h => h.elim) (by kernel_rfl) (by kernel_rfl) (by kernel_rfl) ?_
      have hA : ∀ wr, Rl.Chg (fun _ => False) w4 wr → Ext w4 wr := fun wr h => h.ext (fun _ h => h)
      (conv => arg 8; simp only [List.nil_append, List.cons_append]); (conv => arg 9; intro xs; simp [Act.put]); refine Rl.RelW.quiet (fun _ => .agg #[.slice A x.es.length c, .slice A' x.ss.length c']) [] [] rfl rfl (fun _ _ _ => rfl) (by simp) (by simp) (by intro xs Ss wr hC hH; have hxr := hA _ hC; simp [Rl.outAt, Rl.outR, go_sem, hxr.cell k0, hxr.cell k1]) ?_
      (conv => arg 8; simp only [List.nil_append, List.cons_append]); (conv => arg 9; intro xs; simp [Act.put]); refine Rl.RelW.quiet (fun _ => .string ⟨#[112]⟩) [] [] rfl rfl (fun _ _ _ => rfl) (by simp) (by simp) (by intro xs Ss wr hC hH; have hxr := hA _ hC; simp [Rl.outAt, Rl.outR, go_sem, True]) ?_
      (conv => arg 8; simp only [List.nil_append, List.cons_append]); (conv => arg 9; intro xs; simp [Act.put]); refine Rl.RelW.quiet (fun _ => .agg #[.int .i64 bf.m, .int .i64 bf.u]) [] [] rfl rfl (fun _ _ _ => rfl) (by simp) (by simp) (by intro xs Ss wr hC hH; have hxr := hA _ hC; simp [Rl.outAt, Rl.outR, go_sem, hxr.cell f0, hxr.cell f1]) ?_
      (conv => arg 8; simp only [List.nil_append, List.cons_append]); (conv => arg 9; intro xs; simp [Act.put]); refine Rl.RelW.quiet (fun _ => .agg #[.int .i64 bf.m, .int .i64 bf.u]) [] [] rfl rfl (fun _ _ _ => rfl) (by simp) (by simp) (by intro xs Ss wr hC hH; have hxr := hA _ hC; simp [Rl.outAt, Rl.outR, go_sem, hxr.cell f0, hxr.cell f1]) ?_
      (conv => arg 8; simp only [List.nil_append, List.cons_append]); (conv => arg 9; intro xs; simp [Act.put]); refine Rl.RelW.quiet (fun _ => .int .i64 N) [] [] rfl rfl (fun _ _ _ => rfl) (by simp) (by simp) (by intro xs Ss wr hC hH; have hxr := hA _ hC; simp [Rl.outAt, Rl.outR, go_sem, True]) ?_
      (conv => arg 8; simp only [List.nil_append, List.cons_append]); (conv => arg 9; intro xs; simp [Act.put]); refine Rl.RelW.quiet (fun _ => .int .i64 (N.tdiv 5)) [] [] rfl rfl (fun _ _ _ => rfl) (by simp) (by simp) (by intro xs Ss wr hC hH; have hxr := hA _ hC; simp [Rl.outAt, Rl.outR, go_sem, hw3]) ?_
      (conv => arg 8; simp only [List.nil_append, List.cons_append]); (conv => arg 9; intro xs; simp [Act.put])
      refine Rl.RelW.callX (fun _ => .agg #[.int .i64 af.m, .int .i64 af.u]) [] [] rfl rfl (fun _ _ _ => rfl) (by simp) (by simp) ?_ ?_
      · intro xs Ss wq hC hH
        refine Rl.out_of_calls (by simp [go_sem]) ((GX.out wq).mono ?_)
        rintro r wq2 ⟨rfl, hq⟩
        exact ⟨_, rfl, rfl, hq⟩
      (conv => arg 8; simp only [List.nil_append, List.cons_append]); (conv => arg 9; intro xs; simp [Act.put]); refine Rl.RelW.quiet (fun _ => .agg #[.string ⟨#[112]⟩, .int .i64 bf.m, .int .i64 bf.u, .int .i64 af.m, .int .i64 af.u]) [] [] rfl rfl (fun _ _ _ => rfl) (by simp) (by simp) (by intro xs Ss wr hC hH; have hxr := hA _ hC; simp [Rl.outAt, Rl.outR, go_sem, True]) ?_
      (conv => arg 8; simp only [List.nil_append, List.cons_append]); (conv => arg 9; intro xs; simp [Act.put])
      refine Rl.RelW.step ⟨fun xs => xs 8, fun xs S w' => ∃ A c A' c', xs 8 = .tuple #[.agg #[.slice A y1.es.length c, .slice A' y1.ss.length c'], .int .i64 y2] ∧ (w'.ownsRow w4.heap.size 33 5 (.slice A y1.es.length c) y1.es.length (ens y1.es) ∧ w'.ownsRow w4.heap.size 69 2 (.slice A' y1.ss.length c') y1.ss.length (svl y1.ss)) ∧ (y1.es.length ≤ c ∧ y1.ss.length ≤ c') ∧ (∀ g, (Value.slice A y1.es.length c).ownBlock = some g → S g) ∧ (∀ g, (Value.slice A' y1.ss.length c').ownBlock = some g → S g), [], [], [], false⟩ rfl rfl ?_ ?_ (by simp) ?_ ?_
      · intro xs ys h
        have e := h 8 (by simp)
        exact ⟨e, fun S w h => by simp only at h ⊢; rw [← e]; exact h⟩
      · intro xs S w w' _ hG hS hk
        obtain ⟨A, c, A', c', e, ⟨o1, o2⟩, l1, s1, s2⟩ := hG
        exact ⟨A, c, A', c', e, ⟨Rl.own_kp o1 s1 hk, Rl.own_kp o2 s2 hk⟩, l1, s1, s2⟩
      · intro xs Ss wq hC hH
        have hq0 := (hA _ hC).size
        refine Rl.out_of_calls (by simp [go_sem]) ((RX.out wq (hx4.tr (hA _ hC))).mono ?_)
        rintro r wq2 ⟨v2, rfl, ⟨A2, c2, A3, c3, rfl, o1, o2, l1, l2⟩, hq⟩
        refine ⟨_, rfl, fun g => wq.heap.size ≤ g ∧ g < wq2.heap.size, ⟨.inr rfl, ?_⟩, Rl.Chg.of_ext hq, fun g hg => .inr hg⟩
        exact ⟨A2, c2, A3, c3, rfl, ⟨own_le o1 hq0, own_le o2 hq0⟩, ⟨l1, l2⟩, fun g hg => o1.lt g hg, fun g hg => o2.lt g hg⟩
      (conv => arg 8; simp only [List.nil_append, List.cons_append]); (conv => arg 9; intro xs; simp [Act.put])
      refine Rl.RelW.quiet (fun xs => xs 8) [8] [] rfl rfl (fun xs ys h => h 8 (by simp)) (by simp) (by simp) ?_ ?_
      · intro xs Ss wr hC hH
        simp [Rl.outAt, Rl.outR, go_sem]
      (conv => arg 8; simp only [List.nil_append, List.cons_append]); (conv => arg 9; intro xs; simp [Act.put])
      refine Rl.RelW.quiet (fun xs => tAt 0 (xs 8)) [8] [8] rfl rfl (fun xs ys h => by rw [h 8 (by simp)]) (by simp) (by simp) ?_ ?_
      · intro xs Ss wr hC hH
        obtain ⟨⟨A2, c2, A3, c3, e8, _⟩, _⟩ := hH.get (i := 8) (by simp) rfl
        simp [Rl.outAt, Rl.outR, go_sem, e8, tAt]
      (conv => arg 8; simp only [List.nil_append, List.cons_append]); (conv => arg 9; intro xs; simp [Act.put])
      refine Rl.RelW.quiet (fun _ => .int .i64 y2) [] [8] rfl rfl (fun _ _ _ => rfl) (by simp) (by simp) ?_ ?_
      · intro xs Ss wr hC hH
        obtain ⟨⟨A2, c2, A3, c3, e8, _⟩, _⟩ := hH.get (i := 8) (by simp) rfl
        simp [Rl.outAt, Rl.outR, go_sem, e8]
      (conv => arg 8; simp only [List.nil_append, List.cons_append]); (conv => arg 9; intro xs; simp [Act.put])
      refine Rl.RelW.box (fun g => .pointer (some ⟨g, 0, none⟩)) 31 (fun _ => #[.slice none 0 0, .slice none 0 0]) [] [] rfl rfl (by simp) (by simp) (fun _ _ _ => rfl) ?_ ?_
      · intro xs Ss wr hC hH
        simp [Rl.outAt, Rl.outR, go_sem]
      (conv => arg 8; simp only [List.nil_append, List.cons_append]); (conv => arg 9; intro xs; simp [Act.put])
      refine Rl.RelW.step ⟨fun _ => undef, fun xs S w => ∃ g, xs 12 = .pointer (some ⟨g, 0, none⟩) ∧ Blk w g 31 (aggOf (tAt 0 (xs 8))) ∧ S g, [12, 8], [8], [12], false⟩ rfl rfl ?_ ?_ (by simp) ?_ ?_
      · intro xs ys h
        refine ⟨rfl, fun S w hG => ?_⟩
        simp only at hG ⊢
        rw [← h 12 (by simp), ← h 8 (by simp)]; exact hG
      · intro xs S w w' _ hG hS hk
        obtain ⟨g, hg1, hg2, hg3⟩ := hG
        exact ⟨g, hg1, Rl.blk_kp hg2 hg3 hk, hg3⟩
      · intro xs Ss wr hC hH
        obtain ⟨⟨g, hg, hb, hSg⟩, _⟩ := hH.get (i := 12) (by simp) rfl
        obtain ⟨⟨A2, c2, A3, c3, e8, _⟩, _⟩ := hH.get (i := 8) (by simp) rfl
        have f0 := hb.frozen 0
        have f1 := hb.frozen 1
        obtain ⟨q0, q1⟩ := hb.c2
        simp [Rl.outAt, Rl.outR, go_sem, hg, e8, tAt, f0, f1, q0, q1]
        refine ⟨fun i => i = g, ⟨g, hg, ?_, rfl⟩, Rl.Chg.of_grown (Only.rf.set2 _ _) (fun i hi => by cases hi; exact hSg), fun i hi => .inl (by rw [hi]; exact hSg)⟩
        have h := hb.set2 (.slice A2 y1.es.length c2) (.slice A3 y1.ss.length c3)
        rw [show Rl.upd xs 13 undef 8 = _ from e8]
        exact h
      (conv => arg 8; simp only [List.nil_append, List.cons_append]); (conv => arg 9; intro xs; simp [Act.put]); refine Rl.RelW.quiet (fun _ => .int .i64 y2) [] [] rfl rfl (fun _ _ _ => rfl) (by simp) (by simp) (by intro xs Ss wr hC hH; have hxr := hA _ hC; simp [Rl.outAt, Rl.outR, go_sem, True]) ?_
      (conv => arg 8; simp only [List.nil_append, List.cons_append]); (conv => arg 9; intro xs; simp [Act.put])
      refine ⟨by kernel_rfl, ?_⟩
      intro xs Ss wq hC hF hD
      obtain ⟨⟨A2, c2, A3, c3, e8, ⟨o1, o2⟩, ⟨l1, l2⟩, _⟩, _⟩ := hF 8 (by decide) (by kernel_rfl)
      obtain ⟨⟨g, hg, bS, _⟩, hb13⟩ := hF 13 (by decide) (by kernel_rfl)
      clear hF hD
      have hxq := hA wq hC
      (try simp only [Nat.reduceAdd, Nat.zero_add] at e8 hg bS o1 o2)
      rw [e8] at bS
      change Blk wq g _ #[.slice A2 y1.es.length c2, .slice A3 y1.ss.length c3] at bS
      have hl3 : LgOwn wq 0 (.agg #[.slice A2 y1.es.length c2, .slice A3 y1.ss.length c3]) y1 := ⟨A2, c2, A3, c3, rfl, own_le o1 (Nat.zero_le _), own_le o2 (Nat.zero_le _), l1, l2⟩
      replace bR := bR.ext hxq
      replace b1 := b1.ext hxq
      have hxx := hx4.tr hxq
      clear hA hC RX GX HX o1 o2
      dsimp only
      rw [e8, hg]
      simp only [tAt]
      clear e8 hg
      obtain ⟨s0, s1⟩ := bS.c2
      obtain ⟨f0, f1⟩ := b1.c2
      obtain ⟨g0, g1⟩ := bR.c2
      have m0 := bR.frozen 0
      have m1 := bR.frozen 1
      go_wp2_with fail
      · rename_i hb
        have hy : y2 = 0 := by simpa using hb
        obtain ⟨d0, d1⟩ := (bR.set2 (.slice A2 y1.es.length c2) (.slice A3 y1.ss.length c3)).c2
        refine bodyPost_ret (v := .agg #[.slice A2 y1.es.length c2, .slice A3 y1.ss.length c3]) (by simp [results, Try.results30, go_sem, d0, d1]) rfl ?_
        rw [HF.out, if_pos hy]
        exact ⟨_, rfl, hl3.only bR (Only.rf.set2 _ _) (by decide) (by decide), (hxx.setCell (p := ⟨w.heap.size + 1, 0, none⟩) (by simp only; omega) _).setCell (p := ⟨w.heap.size + 1, 1, none⟩) (by simp only; omega) _⟩
      · rename_i hb
        have hy : ¬ y2 = 0 := by simpa using hb
        obtain ⟨d0, d1⟩ := (bR.set2 (.slice A x.es.length c) (.slice A' x.ss.length c')).c2
        refine bodyPost_ret (v := .agg #[.slice A x.es.length c, .slice A' x.ss.length c']) (by simp [results, Try.results30, go_sem, d0, d1]) rfl ?_
        rw [HF.out, if_neg hy]
        exact ⟨_, rfl, (HV.out.ext hxx).only bR (Only.rf.set2 _ _) (by decide) (by decide), (hxx.setCell (p := ⟨w.heap.size + 1, 0, none⟩) (by simp only; omega) _).setCell (p := ⟨w.heap.size + 1, 1, none⟩) (by simp only; omega) _⟩
    · skip
      skip
      rw [h5] at RX HX HF hem
      replace hem := hem.symm
      rw [show CL.nmOf _ = [113] from rfl] at RX HX HF
      generalize CL.rcd x ⟨[113], bf, af⟩ = y at *
      obtain ⟨y1, y2⟩ := y
      go_wp2_with (first
        | (go_at_call 29; (with_reducible refine (MX.out _).mono ?_); rintro r w2 ⟨rfl, rfl⟩)
        | (go_at_call 35; (with_reducible refine (HX.out _ (hx0.tr (Ext.new _ _))).mono ?_); rintro r w3 ⟨rfl, hx3⟩; (replace hx3 := Ext.tr (Ext.new _ _) hx3); (replace hx3 := (show Ext W w3 from hx3).tr (Ext.new w3 (.cells #[.int .i64 bf.m, .int .i64 bf.u] 23))); (have bF := Blk.new w3 23 #[.int .i64 bf.m, .int .i64 bf.u]); (replace bR := bR.ext hx3); (replace b1 := b1.ext hx3))
        | go_in)
      generalize (w3.alloc (.cells #[.int .i64 bf.m, .int .i64 bf.u] 23)) = w4 at *
      obtain ⟨f0, f1⟩ := bF.c2
      obtain ⟨k0, k1⟩ := b1.c2
      have hx4 := hx0.tr hx3
      refine Rl.wp_region_rel (fun _ => False) (fun _ h => h.elim) (by kernel_rfl) (by kernel_rfl) (by kernel_rfl) ?_
      have hA : ∀ wr, Rl.Chg (fun _ => False) w4 wr → Ext w4 wr := fun wr h => h.ext (fun _ h => h)
      (conv => arg 8; simp only [List.nil_append, List.cons_append]); (conv => arg 9; intro xs; simp [Act.put]); refine Rl.RelW.quiet (fun _ => .agg #[.slice A x.es.length c, .slice A' x.ss.length c']) [] [] rfl rfl (fun _ _ _ => rfl) (by simp) (by simp) (by intro xs Ss wr hC hH; have hxr := hA _ hC; simp [Rl.outAt, Rl.outR, go_sem, hxr.cell k0, hxr.cell k1]) ?_
      (conv => arg 8; simp only [List.nil_append, List.cons_append]); (conv => arg 9; intro xs; simp [Act.put]); refine Rl.RelW.quiet (fun _ => .string ⟨#[113]⟩) [] [] rfl rfl (fun _ _ _ => rfl) (by simp) (by simp) (by intro xs Ss wr hC hH; have hxr := hA _ hC; simp [Rl.outAt, Rl.outR, go_sem, True]) ?_
      (conv => arg 8; simp only [List.nil_append, List.cons_append]); (conv => arg 9; intro xs; simp [Act.put]); refine Rl.RelW.quiet (fun _ => .agg #[.int .i64 bf.m, .int .i64 bf.u]) [] [] rfl rfl (fun _ _ _ => rfl) (by simp) (by simp) (by intro xs Ss wr hC hH; have hxr := hA _ hC; simp [Rl.outAt, Rl.outR, go_sem, hxr.cell f0, hxr.cell f1]) ?_
      (conv => arg 8; simp only [List.nil_append, List.cons_append]); (conv => arg 9; intro xs; simp [Act.put]); refine Rl.RelW.quiet (fun _ => .agg #[.int .i64 bf.m, .int .i64 bf.u]) [] [] rfl rfl (fun _ _ _ => rfl) (by simp) (by simp) (by intro xs Ss wr hC hH; have hxr := hA _ hC; simp [Rl.outAt, Rl.outR, go_sem, hxr.cell f0, hxr.cell f1]) ?_
      (conv => arg 8; simp only [List.nil_append, List.cons_append]); (conv => arg 9; intro xs; simp [Act.put]); refine Rl.RelW.quiet (fun _ => .int .i64 N) [] [] rfl rfl (fun _ _ _ => rfl) (by simp) (by simp) (by intro xs Ss wr hC hH; have hxr := hA _ hC; simp [Rl.outAt, Rl.outR, go_sem, True]) ?_
      (conv => arg 8; simp only [List.nil_append, List.cons_append]); (conv => arg 9; intro xs; simp [Act.put]); refine Rl.RelW.quiet (fun _ => .int .i64 (N.tdiv 5)) [] [] rfl rfl (fun _ _ _ => rfl) (by simp) (by simp) (by intro xs Ss wr hC hH; have hxr := hA _ hC; simp [Rl.outAt, Rl.outR, go_sem, hw3]) ?_
      (conv => arg 8; simp only [List.nil_append, List.cons_append]); (conv => arg 9; intro xs; simp [Act.put])
      refine Rl.RelW.callX (fun _ => .agg #[.int .i64 af.m, .int .i64 af.u]) [] [] rfl rfl (fun _ _ _ => rfl) (by simp) (by simp) ?_ ?_
      · intro xs Ss wq hC hH
        refine Rl.out_of_calls (by simp [go_sem]) ((GX.out wq).mono ?_)
        rintro r wq2 ⟨rfl, hq⟩
        exact ⟨_, rfl, rfl, hq⟩
      (conv => arg 8; simp only [List.nil_append, List.cons_append]); (conv => arg 9; intro xs; simp [Act.put]); refine Rl.RelW.quiet (fun _ => .agg #[.string ⟨#[113]⟩, .int .i64 bf.m, .int .i64 bf.u, .int .i64 af.m, .int .i64 af.u]) [] [] rfl rfl (fun _ _ _ => rfl) (by simp) (by simp) (by intro xs Ss wr hC hH; have hxr := hA _ hC; simp [Rl.outAt, Rl.outR, go_sem, True]) ?_
      (conv => arg 8; simp only [List.nil_append, List.cons_append]); (conv => arg 9; intro xs; simp [Act.put])
      refine Rl.RelW.step ⟨fun xs => xs 8, fun xs S w' => ∃ A c A' c', xs 8 = .tuple #[.agg #[.slice A y1.es.length c, .slice A' y1.ss.length c'], .int .i64 y2] ∧ (w'.ownsRow w4.heap.size 33 5 (.slice A y1.es.length c) y1.es.length (ens y1.es) ∧ w'.ownsRow w4.heap.size 69 2 (.slice A' y1.ss.length c') y1.ss.length (svl y1.ss)) ∧ (y1.es.length ≤ c ∧ y1.ss.length ≤ c') ∧ (∀ g, (Value.slice A y1.es.length c).ownBlock = some g → S g) ∧ (∀ g, (Value.slice A' y1.ss.length c').ownBlock = some g → S g), [], [], [], false⟩ rfl rfl ?_ ?_ (by simp) ?_ ?_
      · intro xs ys h
        have e := h 8 (by simp)
        exact ⟨e, fun S w h => by simp only at h ⊢; rw [← e]; exact h⟩
      · intro xs S w w' _ hG hS hk
        obtain ⟨A, c, A', c', e, ⟨o1, o2⟩, l1, s1, s2⟩ := hG
        exact ⟨A, c, A', c', e, ⟨Rl.own_kp o1 s1 hk, Rl.own_kp o2 s2 hk⟩, l1, s1, s2⟩
      · intro xs Ss wq hC hH
        have hq0 := (hA _ hC).size
        refine Rl.out_of_calls (by simp [go_sem]) ((RX.out wq (hx4.tr (hA _ hC))).mono ?_)
        rintro r wq2 ⟨v2, rfl, ⟨A2, c2, A3, c3, rfl, o1, o2, l1, l2⟩, hq⟩
        refine ⟨_, rfl, fun g => wq.heap.size ≤ g ∧ g < wq2.heap.size, ⟨.inr rfl, ?_⟩, Rl.Chg.of_ext hq, fun g hg => .inr hg⟩
        exact ⟨A2, c2, A3, c3, rfl, ⟨own_le o1 hq0, own_le o2 hq0⟩, ⟨l1, l2⟩, fun g hg => o1.lt g hg, fun g hg => o2.lt g hg⟩
      (conv => arg 8; simp only [List.nil_append, List.cons_append]); (conv => arg 9; intro xs; simp [Act.put])
      refine Rl.RelW.quiet (fun xs => xs 8) [8] [] rfl rfl (fun xs ys h => h 8 (by simp)) (by simp) (by simp) ?_ ?_
      · intro xs Ss wr hC hH
        simp [Rl.outAt, Rl.outR, go_sem]
      (conv => arg 8; simp only [List.nil_append, List.cons_append]); (conv => arg 9; intro xs; simp [Act.put])
      refine Rl.RelW.quiet (fun xs => tAt 0 (xs 8)) [8] [8] rfl rfl (fun xs ys h => by rw [h 8 (by simp)]) (by simp) (by simp) ?_ ?_
      · intro xs Ss wr hC hH
        obtain ⟨⟨A2, c2, A3, c3, e8, _⟩, _⟩ := hH.get (i := 8) (by simp) rfl
        simp [Rl.outAt, Rl.outR, go_sem, e8, tAt]
      (conv => arg 8; simp only [List.nil_append, List.cons_append]); (conv => arg 9; intro xs; simp [Act.put])
      refine Rl.RelW.quiet (fun _ => .int .i64 y2) [] [8] rfl rfl (fun _ _ _ => rfl) (by simp) (by simp) ?_ ?_
      · intro xs Ss wr hC hH
        obtain ⟨⟨A2, c2, A3, c3, e8, _⟩, _⟩ := hH.get (i := 8) (by simp) rfl
        simp [Rl.outAt, Rl.outR, go_sem, e8]
      (conv => arg 8; simp only [List.nil_append, List.cons_append]); (conv => arg 9; intro xs; simp [Act.put])
      refine Rl.RelW.box (fun g => .pointer (some ⟨g, 0, none⟩)) 31 (fun _ => #[.slice none 0 0, .slice none 0 0]) [] [] rfl rfl (by simp) (by simp) (fun _ _ _ => rfl) ?_ ?_
      · intro xs Ss wr hC hH
        simp [Rl.outAt, Rl.outR, go_sem]
      (conv => arg 8; simp only [List.nil_append, List.cons_append]); (conv => arg 9; intro xs; simp [Act.put])
      refine Rl.RelW.step ⟨fun _ => undef, fun xs S w => ∃ g, xs 12 = .pointer (some ⟨g, 0, none⟩) ∧ Blk w g 31 (aggOf (tAt 0 (xs 8))) ∧ S g, [12, 8], [8], [12], false⟩ rfl rfl ?_ ?_ (by simp) ?_ ?_
      · intro xs ys h
        refine ⟨rfl, fun S w hG => ?_⟩
        simp only at hG ⊢
        rw [← h 12 (by simp), ← h 8 (by simp)]; exact hG
      · intro xs S w w' _ hG hS hk
        obtain ⟨g, hg1, hg2, hg3⟩ := hG
        exact ⟨g, hg1, Rl.blk_kp hg2 hg3 hk, hg3⟩
      · intro xs Ss wr hC hH
        obtain ⟨⟨g, hg, hb, hSg⟩, _⟩ := hH.get (i := 12) (by simp) rfl
        obtain ⟨⟨A2, c2, A3, c3, e8, _⟩, _⟩ := hH.get (i := 8) (by simp) rfl
        have f0 := hb.frozen 0
        have f1 := hb.frozen 1
        obtain ⟨q0, q1⟩ := hb.c2
        simp [Rl.outAt, Rl.outR, go_sem, hg, e8, tAt, f0, f1, q0, q1]
        refine ⟨fun i => i = g, ⟨g, hg, ?_, rfl⟩, Rl.Chg.of_grown (Only.rf.set2 _ _) (fun i hi => by cases hi; exact hSg), fun i hi => .inl (by rw [hi]; exact hSg)⟩
        have h := hb.set2 (.slice A2 y1.es.length c2) (.slice A3 y1.ss.length c3)
        rw [show Rl.upd xs 13 undef 8 = _ from e8]
        exact h
      (conv => arg 8; simp only [List.nil_append, List.cons_append]); (conv => arg 9; intro xs; simp [Act.put]); refine Rl.RelW.quiet (fun _ => .int .i64 y2) [] [] rfl rfl (fun _ _ _ => rfl) (by simp) (by simp) (by intro xs Ss wr hC hH; have hxr := hA _ hC; simp [Rl.outAt, Rl.outR, go_sem, True]) ?_
      (conv => arg 8; simp only [List.nil_append, List.cons_append]); (conv => arg 9; intro xs; simp [Act.put])
      refine ⟨by kernel_rfl, ?_⟩
      intro xs Ss wq hC hF hD
      obtain ⟨⟨A2, c2, A3, c3, e8, ⟨o1, o2⟩, ⟨l1, l2⟩, _⟩, _⟩ := hF 8 (by decide) (by kernel_rfl)
      obtain ⟨⟨g, hg, bS, _⟩, hb13⟩ := hF 13 (by decide) (by kernel_rfl)
      clear hF hD
      have hxq := hA wq hC
      (try simp only [Nat.reduceAdd, Nat.zero_add] at e8 hg bS o1 o2)
      rw [e8] at bS
      change Blk wq g _ #[.slice A2 y1.es.length c2, .slice A3 y1.ss.length c3] at bS
      have hl3 : LgOwn wq 0 (.agg #[.slice A2 y1.es.length c2, .slice A3 y1.ss.length c3]) y1 := ⟨A2, c2, A3, c3, rfl, own_le o1 (Nat.zero_le _), own_le o2 (Nat.zero_le _), l1, l2⟩
      replace bR := bR.ext hxq
      replace b1 := b1.ext hxq
      have hxx := hx4.tr hxq
      clear hA hC RX GX HX o1 o2
      dsimp only
      rw [e8, hg]
      simp only [tAt]
      clear e8 hg
      obtain ⟨s0, s1⟩ := bS.c2
      obtain ⟨f0, f1⟩ := b1.c2
      obtain ⟨g0, g1⟩ := bR.c2
      have m0 := bR.frozen 0
      have m1 := bR.frozen 1
      go_wp2_with fail
      · rename_i hb
        have hy : y2 = 0 := by simpa using hb
        obtain ⟨d0, d1⟩ := (bR.set2 (.slice A2 y1.es.length c2) (.slice A3 y1.ss.length c3)).c2
        refine bodyPost_ret (v := .agg #[.slice A2 y1.es.length c2, .slice A3 y1.ss.length c3]) (by simp [results, Try.results30, go_sem, d0, d1]) rfl ?_
        rw [HF.out, if_pos hy]
        exact ⟨_, rfl, hl3.only bR (Only.rf.set2 _ _) (by decide) (by decide), (hxx.setCell (p := ⟨w.heap.size + 1, 0, none⟩) (by simp only; omega) _).setCell (p := ⟨w.heap.size + 1, 1, none⟩) (by simp only; omega) _⟩
      · rename_i hb
        have hy : ¬ y2 = 0 := by simpa using hb
        obtain ⟨d0, d1⟩ := (bR.set2 (.slice A x.es.length c) (.slice A' x.ss.length c')).c2
        refine bodyPost_ret (v := .agg #[.slice A x.es.length c, .slice A' x.ss.length c']) (by simp [results, Try.results30, go_sem, d0, d1]) rfl ?_
        rw [HF.out, if_neg hy]
        exact ⟨_, rfl, (HV.out.ext hxx).only bR (Only.rf.set2 _ _) (by decide) (by decide), (hxx.setCell (p := ⟨w.heap.size + 1, 0, none⟩) (by simp only; omega) _).setCell (p := ⟨w.heap.size + 1, 1, none⟩) (by simp only; omega) _⟩
end Go.Proofs.Ytaebindbadfaaaa
