
/- Ledger: the walk of the reference's Record (the three appends that draw their order: by Rl). -/
import Derived.Test.YtaebindbadfaaaaLra
import Derived.Test.YtaebindbadfaaaaRl4
namespace Go.Proofs.Ytaebindbadfaaaa
open Go.RowKit
set_option linter.unusedVariables false
set_option linter.unusedSimpArgs false
/-- like LePost; the rows lie in new memory -/
def LePostN (y : CL.Lg × Int) (w : World) (r : Ending) (w' : World) : Prop := ∃ v, r = .returned (.tuple #[v, .int .i64 y.2]) ∧ LgOwn w' w.heap.size v y.1 ∧ Ext w w'
theorem LgOwn.zeroN (w : World) (b : Nat) : LgOwn w b (.agg #[.slice none 0 0, .slice none 0 0]) CL.noLg := ⟨none, 0, none, 0, rfl, nil_own _ _ _ _, nil_own _ _ _ _, Nat.le_refl _, Nat.le_refl _⟩
theorem LgOwn.le {w : World} {a b : Nat} {v : Value} {x : CL.Lg} (h : LgOwn w a v x) (hb : b ≤ a) : LgOwn w b v x := by
  obtain ⟨A, c, A', c', rfl, h1, h2, h3⟩ := h; exact ⟨A, c, A', c', rfl, own_le h1 hb, own_le h2 hb, h3⟩
theorem RValidK_l (x : CL.Lg) (A : Option Addr) (n c : Nat) (A' : Option Addr) (n' c' : Nat) (w : World) (hn : n = x.es.length) (hn' : n' = x.ss.length) (h1 : Sits w A (ens x.es)) (h2 : Sits w A' (svl x.ss)) (h3 : n ≤ c) (h4 : n' ≤ c') (hf : Fine x) :
    Calls Try.prog 33 #[.agg #[.slice A n c, .slice A' n' c']] w fun r w' => r = .returned (.bool (CL.lval x)) ∧ Ext w w' := by
  subst hn hn'
  exact clusterlocksref14.Valid_c x _ w ⟨A, c, A', c', rfl, h1, h2, h3, h4⟩ hf
set_option maxHeartbeats 6400000 in
set_option maxRecDepth 100000 in
theorem clusterlocksref14.Record_n (x : CL.Lg) (e : CL.En) (v : Value) (w : World) (hv : LgV w v x) (hf : Fine x) (he : e.n.length ≤ maxLen) :
    Calls Try.prog 19 #[v, .agg #[.string ⟨e.n.toArray⟩, .int .i64 e.b.m, .int .i64 e.b.u, .int .i64 e.a.m, .int .i64 e.a.u]] w (LePostN (CL.rcd x e) w) := by
  have hf' := hf
  obtain ⟨A, c, A', c', rfl, h1, h2, h3, h4⟩ := hv
  obtain ⟨k1, k2, k3⟩ := hf
  have VX := Lib.hid (fun W' (h : Ext w W') => RValidK_l x A x.es.length c A' x.ss.length c' W' rfl rfl (h1.ext h) (h2.ext h) h3 h4 hf')
  have FN : CL.lval x = true → Fine ⟨x.es ++ [e], x.ss⟩ := fun hl => ⟨by have := CL.lval_len hl; simp; omega, k2, fun e' he' => by
    rcases List.mem_append.1 he' with h | h
    · exact k3 _ h
    · simp at h; subst h; exact he⟩
  have VY := Lib.hid (fun hl W' A1 c1 A2 c2 h1 h2 h3 h4 => RValidK_l ⟨x.es ++ [e], x.ss⟩ A1 (x.es.length + 1) c1 A2 x.ss.length c2 W' (by simp) rfl h1 h2 h3 h4 (FN hl))
  clear FN
  go_enter Try.func19, Try.ntmps19
  go_wp2_with fail
  obtain ⟨b1, b2, b3, hx0⟩ := box3 w #[.slice A x.es.length c, .slice A' x.ss.length c'] 31 #[.string ⟨e.n.toArray⟩, .int .i64 e.b.m, .int .i64 e.b.u, .int .i64 e.a.m, .int .i64 e.a.u] 33 #[.slice none 0 0, .slice none 0 0] 31
  have hz := hx0.size
  have b3l := b3.lt
  generalize (((w.alloc (.cells #[.slice A x.es.length c, .slice A' x.ss.length c'] 31)).alloc (.cells #[.string ⟨e.n.toArray⟩, .int .i64 e.b.m, .int .i64 e.b.u, .int .i64 e.a.m, .int .i64 e.a.u] 33)).alloc (.cells #[.slice none 0 0, .slice none 0 0] 31)) = W at *
  obtain ⟨e0, e1⟩ := b1.c2
  cases hval : CL.lval x
  · have HF := Lib.hid (show CL.rcd x e = (CL.noLg, 2) by simp [CL.rcd, hval])
    go_wp2_with (go_at_call 33; (with_reducible refine (VX.out _ hx0).mono ?_); rintro r w2 ⟨rfl, hx2⟩; (have bb3 := b3.ext hx2); (obtain ⟨g0, g1⟩ := bb3.c2); (have n0 := bb3.frozen 0); (have n1 := bb3.frozen 1))
    obtain ⟨d0, d1⟩ := (bb3.set2 (.slice none 0 0) (.slice none 0 0)).c2
    refine bodyPost_ret (v := .tuple #[.agg #[.slice none 0 0, .slice none 0 0], .int .i64 2]) (by simp [results, Try.results19, go_sem, d0, d1]) rfl ?_
    unfold LePostN
    rw [HF.out]
    exact ⟨_, rfl, LgOwn.zeroN _ _, (((hx0.tr hx2).setCell (p := ⟨w.heap.size + 1 + 1, 0, none⟩) (by simp only; omega) _).setCell (p := ⟨w.heap.size + 1 + 1, 1, none⟩) (by simp only; omega) _)⟩
  · have HLL := CL.lval_len hval
    go_wp2_with (go_at_call 33; (with_reducible refine (VX.out _ hx0).mono ?_); rintro r w2 ⟨rfl, hx2⟩; (have bb3 := b3.ext hx2); (have bb2 := b2.ext hx2); (obtain ⟨a0, a1⟩ := (b1.ext hx2).c2))
    refine Rl.wp_region_rel (fun _ => False) (fun _ h => h.elim) (by kernel_rfl) (by kernel_rfl) (by kernel_rfl) ?_
    obtain ⟨g0, g1, g2, g3, g4⟩ := bb2.c5
    have hA : ∀ wr, Rl.Chg (fun _ => False) w2 wr → Ext w2 wr := fun wr h => h.ext (fun _ h => h)
    have hw2 := hx0.tr hx2
    have sE := h1.ext hw2
    have sS := h2.ext hw2
    refine Rl.RelW.own w2.heap.size 33 5 0 [] [] [] rfl rfl (by simp) ?_ ?_
    · intro xs Ss wr hC hH
      simp [Rl.outAt, Rl.outR, go_sem]
      exact Rl.empty_out _ _ _ _ hC.size
    (conv => arg 8; simp only [List.nil_append, List.cons_append]); (conv => arg 9; intro xs; simp [Act.put])
    refine Rl.RelW.quiet (fun _ => .pointer (some ⟨w.heap.size, 0, none⟩)) [] [] rfl rfl (fun _ _ _ => rfl) (by simp) (by simp) ?_ ?_
    · intro xs Ss wr hC hH
      have hxr := hA _ hC
  
      simp [Rl.outAt, Rl.outR, go_sem, True]
    (conv => arg 8; simp only [List.nil_append, List.cons_append]); (conv => arg 9; intro xs; simp [Act.put])
    refine Rl.RelW.quiet (fun _ => .slice A x.es.length c) [] [] rfl rfl (fun _ _ _ => rfl) (by simp) (by simp) ?_ ?_
    · intro xs Ss wr hC hH
      have hxr := hA _ hC
  
      simp [Rl.outAt, Rl.outR, go_sem, hxr.cell a0]
    (conv => arg 8; simp only [List.nil_append, List.cons_append]); (conv => arg 9; intro xs; simp [Act.put])
    refine Rl.RelW.append 0 [] w2.heap.size 33 5 0 x.es.length [] (ens x.es) 48 _ 28 (.tmp 11) (.tmp 13) rfl rfl (by simp) rfl Try.underlying28 en_info rfl (by omega) _ _ rfl (by omega) (Nat.le_refl _) (fun xs => by simp [go_sem]) (by rw [ens_len]) (ens_one _) (by unfold maxLen; omega) (by omega) (fun xs Ss wr hC hH => ⟨A, c, by simp [go_sem], sE.ext (hA _ hC)⟩) ?_
    (conv => arg 8; simp only [List.nil_append, List.cons_append]); (conv => arg 9; intro xs; simp [Act.put])
    refine Rl.RelW.quiet (fun _ => .agg #[.string ⟨e.n.toArray⟩, .int .i64 e.b.m, .int .i64 e.b.u, .int .i64 e.a.m, .int .i64 e.a.u]) [] [] rfl rfl (fun _ _ _ => rfl) (by simp) (by simp) ?_ ?_
    · intro xs Ss wr hC hH
      have hxr := hA _ hC
  
      simp [Rl.outAt, Rl.outR, go_sem, hxr.cell g0, hxr.cell g1, hxr.cell g2, hxr.cell g3, hxr.cell g4]
    (conv => arg 8; simp only [List.nil_append, List.cons_append]); (conv => arg 9; intro xs; simp [Act.put])
    refine Rl.RelW.box (fun g => .slice (some ⟨g, 0, none⟩) 1 1) 33 (fun _ => #[.string ⟨e.n.toArray⟩, .int .i64 e.b.m, .int .i64 e.b.u, .int .i64 e.a.m, .int .i64 e.a.u]) [] [] rfl rfl (by simp) (by simp) (fun _ _ _ => rfl) ?_ ?_
    · intro xs Ss wr hC hH
      simp [Rl.outAt, Rl.outR, go_sem]
    (conv => arg 8; simp only [List.nil_append, List.cons_append]); (conv => arg 9; intro xs; simp [Act.put])
    refine Rl.RelW.append 3 [5] w2.heap.size 33 5 x.es.length 1 ([] ++ ens x.es) [.string ⟨e.n.toArray⟩, .int .i64 e.b.m, .int .i64 e.b.u, .int .i64 e.a.m, .int .i64 e.a.u] 48 _ 28 (.tmp 14) (.tmp 16) rfl rfl (by simp) rfl Try.underlying28 en_info rfl (by omega) _ _ (by simp only [Nat.zero_add]; rfl) (by omega) (Nat.le_refl _) (fun xs => by simp [go_sem]) rfl (ens_one [e]) (by unfold maxLen; omega) (by omega) (fun xs Ss wr hC hH => by
      obtain ⟨⟨g, hg, hb, _⟩, _⟩ := hH.get (i := 5) (by simp) rfl
      exact ⟨_, _, by simp [go_sem]; exact hg, Rl.sits_blk hb⟩) ?_
    (conv => arg 8; simp only [List.nil_append, List.cons_append]); (conv => arg 9; intro xs; simp [Act.put])
    refine Rl.RelW.own w2.heap.size 69 2 0 [] [] [] rfl rfl (by simp) ?_ ?_
    · intro xs Ss wr hC hH
      simp [Rl.outAt, Rl.outR, go_sem]
      exact Rl.empty_out _ _ _ _ hC.size
    (conv => arg 8; simp only [List.nil_append, List.cons_append]); (conv => arg 9; intro xs; simp [Act.put])
    refine Rl.RelW.quiet (fun _ => .pointer (some ⟨w.heap.size, 1, none⟩)) [] [] rfl rfl (fun _ _ _ => rfl) (by simp) (by simp) ?_ ?_
    · intro xs Ss wr hC hH
      have hxr := hA _ hC
  
      simp [Rl.outAt, Rl.outR, go_sem, True]
    (conv => arg 8; simp only [List.nil_append, List.cons_append]); (conv => arg 9; intro xs; simp [Act.put])
    refine Rl.RelW.quiet (fun _ => .slice A' x.ss.length c') [] [] rfl rfl (fun _ _ _ => rfl) (by simp) (by simp) ?_ ?_
    · intro xs Ss wr hC hH
      have hxr := hA _ hC
  
      simp [Rl.outAt, Rl.outR, go_sem, hxr.cell a1]
    (conv => arg 8; simp only [List.nil_append, List.cons_append]); (conv => arg 9; intro xs; simp [Act.put])
    refine Rl.RelW.append 7 [] w2.heap.size 69 2 0 x.ss.length [] (svl x.ss) 16 _ 29 (.tmp 18) (.tmp 20) rfl rfl (by simp) rfl Try.underlying29 svr_info rfl (by omega) _ _ rfl (by omega) (Nat.le_refl _) (fun xs => by simp [go_sem]) (by rw [svl_len]) (svl_one _) (by unfold maxLen; omega) (by omega) (fun xs Ss wr hC hH => ⟨A', c', by simp [go_sem], sS.ext (hA _ hC)⟩) ?_
    (conv => arg 8; simp only [List.nil_append, List.cons_append]); (conv => arg 9; intro xs; simp [Act.put])
    refine Rl.RelW.quiet (fun xs => .agg #[xs 6, xs 10]) [6, 10] [6, 10] rfl rfl (fun xs ys h => by rw [h 6 (by simp), h 10 (by simp)]) (by simp) (by simp) ?_ ?_
    · intro xs Ss wr hC hH
      obtain ⟨⟨ho6, _⟩, _⟩ := hH.get (i := 6) (by simp) rfl
      obtain ⟨⟨ho10, _⟩, _⟩ := hH.get (i := 10) (by simp) rfl
      obtain ⟨A1, c1, e6, _⟩ := own_form ho6
      obtain ⟨A2, c2, e10, _⟩ := own_form ho10
      simp [Rl.outAt, Rl.outR, go_sem, e6, e10]
    (conv => arg 8; simp only [List.nil_append, List.cons_append]); (conv => arg 9; intro xs; simp [Act.put])
    refine Rl.RelW.box (fun g => .pointer (some ⟨g, 0, none⟩)) 31 (fun _ => #[.slice none 0 0, .slice none 0 0]) [] [] rfl rfl (by simp) (by simp) (fun _ _ _ => rfl) ?_ ?_
    · intro xs Ss wr hC hH
      simp [Rl.outAt, Rl.outR, go_sem]
    (conv => arg 8; simp only [List.nil_append, List.cons_append]); (conv => arg 9; intro xs; simp [Act.put])
    refine Rl.RelW.step ⟨fun _ => undef, fun xs S w => ∃ g, xs 12 = .pointer (some ⟨g, 0, none⟩) ∧ Blk w g 31 #[xs 6, xs 10] ∧ S g, [12, 6, 10], [6, 10], [12], false⟩ rfl rfl ?_ ?_ (by simp) ?_ ?_
    · intro xs ys h
      refine ⟨rfl, fun S w hG => ?_⟩
      simp only at hG ⊢
      rw [← h 12 (by simp), ← h 6 (by simp), ← h 10 (by simp)]; exact hG
    · intro xs S w w' _ hG hS hk
      obtain ⟨g, hg1, hg2, hg3⟩ := hG
      exact ⟨g, hg1, Rl.blk_kp hg2 hg3 hk, hg3⟩
    · intro xs Ss wr hC hH
      obtain ⟨⟨g, hg, hb, hSg⟩, hlo⟩ := hH.get (i := 12) (by simp) rfl
      obtain ⟨⟨ho6, _⟩, _⟩ := hH.get (i := 6) (by simp) rfl
      obtain ⟨⟨ho10, _⟩, _⟩ := hH.get (i := 10) (by simp) rfl
      obtain ⟨A1, c1, e6, _⟩ := own_form ho6
      obtain ⟨A2, c2, e10, _⟩ := own_form ho10
      have u12 : Rl.upd xs 13 undef 12 = xs 12 := rfl
      have f0 := hb.frozen 0
      have f1 := hb.frozen 1
      obtain ⟨q0, q1⟩ := hb.c2
      simp [Rl.outAt, Rl.outR, go_sem, hg, e6, e10, f0, f1, q0, q1]
      refine ⟨fun i => i = g, ⟨g, hg, ?_, rfl⟩, Rl.Chg.of_grown (Only.rf.set2 _ _) (fun i hi => by cases hi; exact hSg), fun i hi => .inl (by rw [hi]; exact hSg)⟩
      have h := hb.set2 (.slice A1 (x.es.length + 1) c1) (.slice A2 x.ss.length c2)
      rwa [show Rl.upd xs 13 undef 6 = _ from e6, show Rl.upd xs 13 undef 10 = _ from e10, Nat.zero_add]
    (conv => arg 8; simp only [List.nil_append, List.cons_append]); (conv => arg 9; intro xs; simp [Act.put])
    refine ⟨by kernel_rfl, ?_⟩
    intro xs Ss wr hC hF hD
    obtain ⟨⟨ho6, hs6⟩, hb6⟩ := hF 6 (by decide) (by kernel_rfl)
    obtain ⟨⟨ho10, hs10⟩, hb10⟩ := hF 10 (by decide) (by kernel_rfl)
    obtain ⟨⟨g, hg, hbl, hSg⟩, hb13⟩ := hF 13 (by decide) (by kernel_rfl)
    clear hF hD
    have hz2 := hb13 g hSg
    have hA2 := hA wr hC
    clear hb6 hb10 hb13 hs6 hs10
    simp only [Nat.reduceAdd, Nat.zero_add, List.nil_append] at ho6 ho10 hbl hg
    obtain ⟨A1, c1, e6, hc5, _⟩ := own_form ho6
    obtain ⟨A2, c2, e10, hc2, _⟩ := own_form ho10
    rw [e6] at ho6 hbl
    rw [e10] at ho10 hbl
    have SE : Sits wr A1 (ens (x.es ++ [e])) := by rw [ens_append]; exact Sits.of_own ho6
    have SS := Sits.of_own ho10
    have bb7 := bb3.ext hA2
    have hx6 := hw2.tr hA2
    have hz7 := hx6.size
    have hx02 := hw2.size
    obtain ⟨q0, q1⟩ := hbl.c2
    clear b1 b2 b3 bb2 bb3 e0 e1 a0 a1 g0 g1 g2 g3 g4 VX sE sS hA
    dsimp only
    rw [e6, e10, hg]
    clear e6 e10 hg hC
    go_wp2_with (first
      | (go_at_call 33; (with_reducible refine (VY.out hval _ _ _ _ _ SE SS hc5 hc2).mono ?_); rintro r w7 ⟨rfl, hx7⟩; (replace hbl := hbl.ext hx7);
         (replace bb7 := bb7.ext hx7); (replace hx6 := hx6.tr hx7); (replace ho6 := own_ext ho6 hx7); (replace ho10 := own_ext ho10 hx7);
         (obtain ⟨z0, z1⟩ := hbl.c2); (obtain ⟨y0, y1⟩ := bb7.c2); (have n0 := bb7.frozen 0); (have n1 := bb7.frozen 1))
      | go_in)
    · rename_i hb
      have hl : CL.lval ⟨x.es ++ [e], x.ss⟩ = false := by simpa using hb
      have HF := Lib.hid (show CL.rcd x e = (CL.noLg, 1) by simp [CL.rcd, hval, hl])
      obtain ⟨d0, d1⟩ := (bb7.set2 (.slice none 0 0) (.slice none 0 0)).c2
      refine bodyPost_ret (v := .tuple #[.agg #[.slice none 0 0, .slice none 0 0], .int .i64 1]) (by simp [results, Try.results19, go_sem, d0, d1]) rfl ?_
      unfold LePostN
      rw [HF.out]
      exact ⟨_, rfl, LgOwn.zeroN _ _, ((hx6.setCell (p := ⟨w.heap.size + 1 + 1, 0, none⟩) (by simp only; omega) _).setCell (p := ⟨w.heap.size + 1 + 1, 1, none⟩) (by simp only; omega) _)⟩
    · rename_i hb
      have hl : CL.lval ⟨x.es ++ [e], x.ss⟩ = true := by simpa using hb
      have HF := Lib.hid (show CL.rcd x e = (⟨x.es ++ [e], x.ss⟩, 0) by simp [CL.rcd, hval, hl])
      obtain ⟨d0, d1⟩ := (bb7.set2 (.slice A1 (x.es.length + 1) c1) (.slice A2 x.ss.length c2)).c2
      refine bodyPost_ret (v := .tuple #[.agg #[.slice A1 (x.es.length + 1) c1, .slice A2 x.ss.length c2], .int .i64 0]) (by simp [results, Try.results19, go_sem, d0, d1]) rfl ?_
      unfold LePostN
      rw [HF.out]
      have ho5t := own_only ho6 (Only.rf.set2 (g := w.heap.size + 1 + 1) (.slice A1 (x.es.length + 1) c1) (.slice A2 x.ss.length c2)) (fun he => by have := (ho6.lt _ he).1; have := hx2.size; omega)
      have ho2t := own_only ho10 (Only.rf.set2 (g := w.heap.size + 1 + 1) (.slice A1 (x.es.length + 1) c1) (.slice A2 x.ss.length c2)) (fun he => by have := (ho10.lt _ he).1; have := hx2.size; omega)
      refine ⟨_, rfl, ⟨A1, c1, A2, c2, by simp, ?_, own_le ho2t hx02, by simpa using hc5, hc2⟩, ((hx6.setCell (p := ⟨w.heap.size + 1 + 1, 0, none⟩) (by simp only; omega) _).setCell (p := ⟨w.heap.size + 1 + 1, 1, none⟩) (by simp only; omega) _)⟩
      simp only
      rw [ens_append, List.length_append]
      exact own_le ho5t hx02
theorem clusterlocksref14.Record_c (x : CL.Lg) (e : CL.En) (v : Value) (w : World) (hv : LgV w v x) (hf : Fine x) (he : e.n.length ≤ maxLen) :
    Calls Try.prog 19 #[v, .agg #[.string ⟨e.n.toArray⟩, .int .i64 e.b.m, .int .i64 e.b.u, .int .i64 e.a.m, .int .i64 e.a.u]] w (LePost (CL.rcd x e) w) :=
  (clusterlocksref14.Record_n x e v w hv hf he).mono fun _ _ ⟨v', h1, h2, h3⟩ => ⟨v', h1, h2.le (Nat.zero_le _), h3⟩
end Go.Proofs.Ytaebindbadfaaaa
