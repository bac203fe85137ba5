
/- Ledger: the walk of the reference's Save (by Rl). -/
import Derived.Test.YtaebindbadfaaaaLrr
namespace Go.Proofs.Ytaebindbadfaaaa
open Go.RowKit
set_option linter.unusedVariables false
set_option linter.unusedSimpArgs false
set_option maxHeartbeats 6400000 in
set_option maxRecDepth 100000 in
theorem clusterlocksref14.Save_c (x : CL.Lg) (lb : Int) (v : Value) (w : World) (hv : LgV w v x) (hf : Fine x) :
    Calls Try.prog 21 #[v, .int .i64 lb] w (LePost (CL.sav x lb) w) := by
  have hf' := hf
  obtain ⟨A, c, A', c', rfl, h1, h2, h3, h4⟩ := hv
  obtain ⟨k1, k2, k3⟩ := hf
  go_enter Try.func21, Try.ntmps21
  go_wp2_with fail
  obtain ⟨b1, b3, hx0⟩ := two_rows w #[.slice A x.es.length c, .slice A' x.ss.length c'] 31 #[.slice none 0 0, .slice none 0 0] 31
  have hz := hx0.size
  have b3l := b3.lt
  generalize ((w.alloc (.cells #[.slice A x.es.length c, .slice A' x.ss.length c'] 31)).alloc (.cells #[.slice none 0 0, .slice none 0 0] 31)) = W at *
  obtain ⟨e0, e1⟩ := b1.c2
  have VX := Lib.hid (fun W' (h : Ext w W') => RValidK_l x A x.es.length c A' x.ss.length c' W' rfl rfl (h1.ext h) (h2.ext h) h3 h4 hf')
  have PX := Lib.hid (fun W' (h : Ext w W') => clusterlocksref14.find_c x.ss lb A' c' W' (by unfold maxLen; omega) (h2.ext h))
  cases hval : CL.lval x
  · have HF := Lib.hid (show CL.sav x lb = (CL.noLg, 2) by simp [CL.sav, hval])
    go_wp2_with (go_at_call 33; (with_reducible refine (VX.out _ hx0).mono ?_); rintro r w2 ⟨rfl, hx2⟩; (have bb3 := b3.ext hx2); (obtain ⟨a0, a1⟩ := (b1.ext hx2).c2); (obtain ⟨g0, g1⟩ := bb3.c2); (have n0 := bb3.frozen 0); (have n1 := bb3.frozen 1); (have hxx := hx0.tr hx2))
    obtain ⟨d0, d1⟩ := (bb3.set2 (.slice none 0 0) (.slice none 0 0)).c2
    refine bodyPost_ret (v := .tuple #[.agg #[.slice none 0 0, .slice none 0 0], .int .i64 2]) (by simp [results, Try.results21, go_sem, d0, d1]) rfl ?_
    unfold LePost
    rw [HF.out]
    exact ⟨_, rfl, LgOwn.zero _, ((hxx.setCell (p := ⟨w.heap.size + 1, 0, none⟩) (by simp only; omega) _).setCell (p := ⟨w.heap.size + 1, 1, none⟩) (by simp only; omega) _)⟩
  · have HL := Lib.hid (CL.lval_len hval)
    have h4v := (CL.lval_get hval).2.1
    by_cases hb : lb < 1 ∨ 99 < lb
    · have HF := Lib.hid (show CL.sav x lb = (CL.noLg, 1) by simp only [CL.sav, hval, if_true, if_pos hb])
      by_cases hb2 : lb < 1
      · have d2 : (decide (lb < 1)) = true := decide_eq_true hb2
        clear hb
        go_wp2_with (go_at_call 33; (with_reducible refine (VX.out _ hx0).mono ?_); rintro r w2 ⟨rfl, hx2⟩; (have bb3 := b3.ext hx2); (obtain ⟨a0, a1⟩ := (b1.ext hx2).c2); (obtain ⟨g0, g1⟩ := bb3.c2); (have n0 := bb3.frozen 0); (have n1 := bb3.frozen 1); (have hxx := hx0.tr hx2))
        obtain ⟨d0, d1⟩ := (bb3.set2 (.slice none 0 0) (.slice none 0 0)).c2
        refine bodyPost_ret (v := .tuple #[.agg #[.slice none 0 0, .slice none 0 0], .int .i64 1]) (by simp [results, Try.results21, go_sem, d0, d1]) rfl ?_
        unfold LePost
        rw [HF.out]
        exact ⟨_, rfl, LgOwn.zero _, ((hxx.setCell (p := ⟨w.heap.size + 1, 0, none⟩) (by simp only; omega) _).setCell (p := ⟨w.heap.size + 1, 1, none⟩) (by simp only; omega) _)⟩
      · have d2 : (decide (lb < 1)) = false := decide_eq_false hb2
        have hb3 : (99 : Int) < lb := by omega
        have d3 : (decide (99 < lb)) = true := decide_eq_true hb3
        clear hb
        go_wp2_with (go_at_call 33; (with_reducible refine (VX.out _ hx0).mono ?_); rintro r w2 ⟨rfl, hx2⟩; (have bb3 := b3.ext hx2); (obtain ⟨a0, a1⟩ := (b1.ext hx2).c2); (obtain ⟨g0, g1⟩ := bb3.c2); (have n0 := bb3.frozen 0); (have n1 := bb3.frozen 1); (have hxx := hx0.tr hx2))
        obtain ⟨d0, d1⟩ := (bb3.set2 (.slice none 0 0) (.slice none 0 0)).c2
        refine bodyPost_ret (v := .tuple #[.agg #[.slice none 0 0, .slice none 0 0], .int .i64 1]) (by simp [results, Try.results21, go_sem, d0, d1]) rfl ?_
        unfold LePost
        rw [HF.out]
        exact ⟨_, rfl, LgOwn.zero _, ((hxx.setCell (p := ⟨w.heap.size + 1, 0, none⟩) (by simp only; omega) _).setCell (p := ⟨w.heap.size + 1, 1, none⟩) (by simp only; omega) _)⟩
    · have hb2 : (1 : Int) ≤ lb := by omega
      have hb3 : lb ≤ (99 : Int) := by omega
      have d1 : (decide (lb < 1)) = false := decide_eq_false (by omega)
      have d2 : (decide (99 < lb)) = false := decide_eq_false (by omega)
      by_cases hp : 0 ≤ CL.plc x.ss lb
      · have HF := Lib.hid (show CL.sav x lb = (CL.noLg, 11) by simp only [CL.sav, hval, if_true, if_neg hb, if_pos hp])
        clear hb
        go_wp2_with (first
            | (go_at_call 33; (with_reducible refine (VX.out _ hx0).mono ?_); rintro r w2 ⟨rfl, hx2⟩; (have bb3 := b3.ext hx2); (obtain ⟨a0, a1⟩ := (b1.ext hx2).c2); (obtain ⟨g0, g1⟩ := bb3.c2); (have n0 := bb3.frozen 0); (have n1 := bb3.frozen 1); (have hxx := hx0.tr hx2))
            | (go_at_call 47; (with_reducible refine (PX.out _ hxx).mono ?_); rintro r w2p ⟨rfl, rfl⟩))
        obtain ⟨d0, d1⟩ := (bb3.set2 (.slice none 0 0) (.slice none 0 0)).c2
        refine bodyPost_ret (v := .tuple #[.agg #[.slice none 0 0, .slice none 0 0], .int .i64 11]) (by simp [results, Try.results21, go_sem, d0, d1]) rfl ?_
        unfold LePost
        rw [HF.out]
        exact ⟨_, rfl, LgOwn.zero _, ((hxx.setCell (p := ⟨w.heap.size + 1, 0, none⟩) (by simp only; omega) _).setCell (p := ⟨w.heap.size + 1, 1, none⟩) (by simp only; omega) _)⟩
      · have d3 : (decide (0 ≤ CL.plc x.ss lb)) = false := decide_eq_false hp
        by_cases h44 : 4 ≤ x.ss.length
        · have HF := Lib.hid (show CL.sav x lb = (CL.noLg, 4) by simp only [CL.sav, hval, if_true, if_neg hb, if_neg hp, if_pos h44])
          have h44' : ((x.ss.length : Int) == 4) = true := by simp; omega
          clear hb
          go_wp2_with (first
            | (go_at_call 33; (with_reducible refine (VX.out _ hx0).mono ?_); rintro r w2 ⟨rfl, hx2⟩; (have bb3 := b3.ext hx2); (obtain ⟨a0, a1⟩ := (b1.ext hx2).c2); (obtain ⟨g0, g1⟩ := bb3.c2); (have n0 := bb3.frozen 0); (have n1 := bb3.frozen 1); (have hxx := hx0.tr hx2))
            | (go_at_call 47; (with_reducible refine (PX.out _ hxx).mono ?_); rintro r w2p ⟨rfl, rfl⟩))
          obtain ⟨d0, d1⟩ := (bb3.set2 (.slice none 0 0) (.slice none 0 0)).c2
          refine bodyPost_ret (v := .tuple #[.agg #[.slice none 0 0, .slice none 0 0], .int .i64 4]) (by simp [results, Try.results21, go_sem, d0, d1]) rfl ?_
          unfold LePost
          rw [HF.out]
          exact ⟨_, rfl, LgOwn.zero _, ((hxx.setCell (p := ⟨w.heap.size + 1, 0, none⟩) (by simp only; omega) _).setCell (p := ⟨w.heap.size + 1, 1, none⟩) (by simp only; omega) _)⟩
        · have HF := Lib.hid (show CL.sav x lb = (⟨x.es, x.ss ++ [⟨lb, x.es.length⟩]⟩, 0) by simp only [CL.sav, hval, if_true, if_neg hb, if_neg hp, if_neg h44])
          have h44' : ((x.ss.length : Int) == 4) = false := by simp; omega
          have HLL := HL.out
          clear hb
          go_wp2_with (first
            | (go_at_call 33; (with_reducible refine (VX.out _ hx0).mono ?_); rintro r w2 ⟨rfl, hx2⟩; (have bb3 := b3.ext hx2); (obtain ⟨a0, a1⟩ := (b1.ext hx2).c2); (obtain ⟨g0, g1⟩ := bb3.c2); (have n0 := bb3.frozen 0); (have n1 := bb3.frozen 1); (have hxx := hx0.tr hx2))
            | (go_at_call 47; (with_reducible refine (PX.out _ hxx).mono ?_); rintro r w2p ⟨rfl, rfl⟩))
          refine Rl.wp_region_rel (fun g => g = w.heap.size + 1) (fun g h => by rw [h]; exact bb3.lt) (by kernel_rfl) (by kernel_rfl) (by kernel_rfl) ?_
          have hA : ∀ wr, Rl.Chg (fun g => g = w.heap.size + 1) w2 wr → Ext w wr ∧ wr.cell? ⟨w.heap.size, 0, none⟩ = some (.slice A x.es.length c) ∧ wr.cell? ⟨w.heap.size, 1, none⟩ = some (.slice A' x.ss.length c') := fun wr h => ⟨Rl.Chg.tr_ext hxx h (fun g hg => by omega), h.cell a0 (by simp only; omega), h.cell a1 (by simp only; omega)⟩
          refine Rl.RelW.own w2.heap.size 33 5 0 [] [] [] rfl rfl (by simp) ?_ ?_
          · intro xs Ss wr hC hH
            simp [Rl.outAt, Rl.outR, go_sem]
            exact Rl.empty_out _ _ _ _ hC.size
          refine Rl.RelW.quiet (fun _ => .pointer (some ⟨w.heap.size, 0, none⟩)) [] [] rfl rfl (fun _ _ _ => rfl) (by simp) (by simp) ?_ ?_
          · intro xs Ss wr hC hH
            have hxr := hA _ hC
  
            simp [Rl.outAt, Rl.outR, go_sem, True]
          refine Rl.RelW.quiet (fun _ => .slice A x.es.length c) [] [] rfl rfl (fun _ _ _ => rfl) (by simp) (by simp) ?_ ?_
          · intro xs Ss wr hC hH
            have hxr := hA _ hC
  
            simp [Rl.outAt, Rl.outR, go_sem, hxr.2.1]
          (conv => arg 8; simp only [List.nil_append, List.cons_append]); (conv => arg 9; intro xs; simp [Act.put])
          refine Rl.RelW.append 0 [] w2.heap.size 33 5 0 x.es.length [] (ens x.es) 48 _ 28 (.tmp 28) (.tmp 30) rfl rfl (by simp) rfl Try.underlying28 en_info rfl (by omega) _ _ rfl (by omega) (Nat.le_refl _) (fun xs => by simp [go_sem]) (by rw [ens_len]) (ens_one _) (by unfold maxLen; omega) (by omega) (fun xs Ss wr hC hH => ⟨A, c, by simp [go_sem], h1.ext (hA _ hC).1⟩) ?_
          (conv => arg 8; simp only [List.nil_append, List.cons_append]); (conv => arg 9; intro xs; simp [Act.put])
          refine Rl.RelW.own w2.heap.size 69 2 0 [] [] [] rfl rfl (by simp) ?_ ?_
          · intro xs Ss wr hC hH
            simp [Rl.outAt, Rl.outR, go_sem]
            exact Rl.empty_out _ _ _ _ hC.size
          refine Rl.RelW.quiet (fun _ => .pointer (some ⟨w.heap.size, 1, none⟩)) [] [] rfl rfl (fun _ _ _ => rfl) (by simp) (by simp) ?_ ?_
          · intro xs Ss wr hC hH
            have hxr := hA _ hC
  
            simp [Rl.outAt, Rl.outR, go_sem, True]
          refine Rl.RelW.quiet (fun _ => .slice A' x.ss.length c') [] [] rfl rfl (fun _ _ _ => rfl) (by simp) (by simp) ?_ ?_
          · intro xs Ss wr hC hH
            have hxr := hA _ hC
  
            simp [Rl.outAt, Rl.outR, go_sem, hxr.2.2]
          (conv => arg 8; simp only [List.nil_append, List.cons_append]); (conv => arg 9; intro xs; simp [Act.put])
          refine Rl.RelW.append 4 [] w2.heap.size 69 2 0 x.ss.length [] (svl x.ss) 16 _ 29 (.tmp 32) (.tmp 34) rfl rfl (by simp) rfl Try.underlying29 svr_info rfl (by omega) _ _ rfl (by omega) (Nat.le_refl _) (fun xs => by simp [go_sem]) (by rw [svl_len]) (svl_one _) (by unfold maxLen; omega) (by omega) (fun xs Ss wr hC hH => ⟨A', c', by simp [go_sem], h2.ext (hA _ hC).1⟩) ?_
          refine Rl.RelW.quiet (fun _ => .int .i64 lb) [] [] rfl rfl (fun _ _ _ => rfl) (by simp) (by simp) ?_ ?_
          · intro xs Ss wr hC hH
            have hxr := hA _ hC
  
            simp [Rl.outAt, Rl.outR, go_sem, True]
          refine Rl.RelW.quiet (fun _ => .pointer (some ⟨w.heap.size, 0, none⟩)) [] [] rfl rfl (fun _ _ _ => rfl) (by simp) (by simp) ?_ ?_
          · intro xs Ss wr hC hH
            have hxr := hA _ hC
  
            simp [Rl.outAt, Rl.outR, go_sem, True]
          refine Rl.RelW.quiet (fun _ => .slice A x.es.length c) [] [] rfl rfl (fun _ _ _ => rfl) (by simp) (by simp) ?_ ?_
          · intro xs Ss wr hC hH
            have hxr := hA _ hC
  
            simp [Rl.outAt, Rl.outR, go_sem, hxr.2.1]
          refine Rl.RelW.quiet (fun _ => .int .i64 (x.es.length : Nat)) [] [] rfl rfl (fun _ _ _ => rfl) (by simp) (by simp) ?_ ?_
          · intro xs Ss wr hC hH
            have hxr := hA _ hC
  
            simp [Rl.outAt, Rl.outR, go_sem, True]
          refine Rl.RelW.quiet (fun _ => .agg #[.int .i64 lb, .int .i64 (x.es.length : Nat)]) [] [] rfl rfl (fun _ _ _ => rfl) (by simp) (by simp) ?_ ?_
          · intro xs Ss wr hC hH
            have hxr := hA _ hC
  
            simp [Rl.outAt, Rl.outR, go_sem, True]
          (conv => arg 8; simp only [List.nil_append, List.cons_append]); (conv => arg 9; intro xs; simp [Act.put])
          refine Rl.RelW.box (fun g => .slice (some ⟨g, 0, none⟩) 1 1) 69 (fun _ => #[.int .i64 lb, .int .i64 (x.es.length : Nat)]) [] [] rfl rfl (by simp) (by simp) (fun _ _ _ => rfl) ?_ ?_
          · intro xs Ss wr hC hH
            simp [Rl.outAt, Rl.outR, go_sem]
          (conv => arg 8; simp only [List.nil_append, List.cons_append]); (conv => arg 9; intro xs; simp [Act.put])
          refine Rl.RelW.append 7 [13] w2.heap.size 69 2 x.ss.length 1 ([] ++ svl x.ss) [.int .i64 lb, .int .i64 (x.es.length : Nat)] 16 _ 29 (.tmp 35) (.tmp 41) rfl rfl (by simp) rfl Try.underlying29 svr_info rfl (by omega) _ _ (by simp only [Nat.zero_add]; rfl) (by omega) (Nat.le_refl _) (fun xs => by simp [go_sem]) rfl (svl_one [⟨lb, x.es.length⟩]) (by unfold maxLen; omega) (by omega) (fun xs Ss wr hC hH => by
            obtain ⟨⟨g, hg, hb, _⟩, _⟩ := hH.get (i := 13) (by simp) rfl
            exact ⟨_, _, by simp [go_sem]; exact hg, Rl.sits_blk hb⟩) ?_
          (conv => arg 8; simp only [List.nil_append, List.cons_append]); (conv => arg 9; intro xs; simp [Act.put])
          refine Rl.RelW.quiet (fun xs => .agg #[xs 3, xs 14]) [3, 14] [3, 14] rfl rfl (fun xs ys h => by rw [h 3 (by simp), h 14 (by simp)]) (by simp) (by simp) ?_ ?_
          · intro xs Ss wr hC hH
            obtain ⟨⟨ho6, _⟩, _⟩ := hH.get (i := 3) (by simp) rfl
            obtain ⟨⟨ho10, _⟩, _⟩ := hH.get (i := 14) (by simp) rfl
            obtain ⟨A1, c1, e6, _⟩ := own_form ho6
            obtain ⟨A2, c2, e10, _⟩ := own_form ho10
            simp [Rl.outAt, Rl.outR, go_sem, e6, e10]
          (conv => arg 8; simp only [List.nil_append, List.cons_append]); (conv => arg 9; intro xs; simp [Act.put])
          refine Rl.RelW.stepOld ⟨fun _ => undef, fun xs S w' => Blk w' (w.heap.size + 1) 31 #[xs 3, xs 14] ∧ S (w.heap.size + 1), [3, 14], [3, 14], [], true⟩ rfl rfl rfl ?_ ?_ (by simp) ?_ ?_
          · intro xs ys h
            refine ⟨rfl, fun S w hG => ?_⟩
            simp only at hG ⊢
            rw [← h 3 (by simp), ← h 14 (by simp)]; exact hG
          · intro xs S w w' _ hG hS hk
            exact ⟨Rl.blk_kp hG.1 hG.2 hk, hG.2⟩
          · intro xs Ss wr hC hH
            obtain ⟨⟨ho6, _⟩, _⟩ := hH.get (i := 3) (by simp) rfl
            obtain ⟨⟨ho10, _⟩, _⟩ := hH.get (i := 14) (by simp) rfl
            obtain ⟨A1, c1, e6, _⟩ := own_form ho6
            obtain ⟨A2, c2, e10, _⟩ := own_form ho10
            have hb := bb3.ext hC
            have f0 := hb.frozen 0
            have f1 := hb.frozen 1
            obtain ⟨q0, q1⟩ := hb.c2
            simp [Rl.outAt, Rl.outR, go_sem, e6, e10, f0, f1, q0, q1]
            refine ⟨fun i => i = w.heap.size + 1, ⟨?_, rfl⟩, Rl.Chg.of_grown (Only.rf.set2 _ _) (fun i hi => by cases hi; rfl), fun i hi => .inl hi⟩
            have h := hb.set2 (.slice A1 x.es.length c1) (.slice A2 (x.ss.length + 1) c2)
            rw [show Rl.upd xs 16 undef 3 = _ from e6, show Rl.upd xs 16 undef 14 = _ from e10, Nat.zero_add]
            exact h
          refine Rl.RelW.quiet (fun _ => .int .i64 0) [] [] rfl rfl (fun _ _ _ => rfl) (by simp) (by simp) ?_ ?_
          · intro xs Ss wr hC hH
            have hxr := hA _ hC
  
            simp [Rl.outAt, Rl.outR, go_sem, True]
          (conv => arg 8; simp only [List.nil_append, List.cons_append]); (conv => arg 9; intro xs; simp [Act.put])
          refine ⟨by kernel_rfl, ?_⟩
          intro xs Ss wr hC hF hD
          obtain ⟨⟨ho6, hs6⟩, hb6⟩ := hF 3 (by decide) (by kernel_rfl)
          obtain ⟨⟨ho10, hs10⟩, hb10⟩ := hF 14 (by decide) (by kernel_rfl)
          obtain ⟨⟨hbl, hSg⟩, hb13⟩ := hF 16 (by decide) (by kernel_rfl)
          clear hF hD hb6 hb10 hb13 hs6 hs10
          obtain ⟨hx6, _, _⟩ := hA wr hC
          simp only [Nat.reduceAdd, Nat.zero_add, List.nil_append] at ho6 ho10 hbl
          obtain ⟨A1, c1, e6, hc1, _⟩ := own_form ho6
          obtain ⟨A2, c2, e10, hc2, _⟩ := own_form ho10
          rw [e6] at ho6 hbl
          rw [e10] at ho10 hbl
          obtain ⟨d0, d1⟩ := hbl.c2
          dsimp only
          rw [e6, e10]
          go_wp2_with fail
          refine bodyPost_ret (v := .tuple #[.agg #[.slice A1 x.es.length c1, .slice A2 (x.ss.length + 1) c2], .int .i64 0]) (by simp [results, Try.results21, go_sem, d0, d1]) rfl ?_
          unfold LePost
          rw [HF.out]
          refine ⟨_, rfl, ⟨A1, c1, A2, c2, by simp, own_le ho6 (Nat.zero_le _), ?_, hc1, by simpa using hc2⟩, hx6⟩
          simp only
          rw [svl_append, List.length_append]
          exact own_le ho10 (Nat.zero_le _)
end Go.Proofs.Ytaebindbadfaaaa
