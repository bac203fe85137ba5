
/- Ledger: the walks of Record and Save. -/
import Derived.Test.YtaebindbadfaaaaLe
namespace Go.Proofs.Ytaebindbadfaaaa
open Go.RowKit
set_option linter.unusedVariables false
set_option linter.unusedSimpArgs false
theorem box3 (w : World) (c1 : Array Value) (t1 : TypeId) (c2 : Array Value) (t2 : TypeId) (c3 : Array Value) (t3 : TypeId) : Blk (((w.alloc (.cells c1 t1)).alloc (.cells c2 t2)).alloc (.cells c3 t3)) w.heap.size t1 c1 ∧ Blk (((w.alloc (.cells c1 t1)).alloc (.cells c2 t2)).alloc (.cells c3 t3)) (w.heap.size + 1) t2 c2 ∧
    Blk (((w.alloc (.cells c1 t1)).alloc (.cells c2 t2)).alloc (.cells c3 t3)) (w.heap.size + 1 + 1) t3 c3 ∧ Ext w (((w.alloc (.cells c1 t1)).alloc (.cells c2 t2)).alloc (.cells c3 t3)) := by
  obtain ⟨h1, h2, h3⟩ := two_rows w c1 t1 c2 t2
  have h4 := Blk.new ((w.alloc (.cells c1 t1)).alloc (.cells c2 t2)) t3 c3
  have e : ((w.alloc (.cells c1 t1)).alloc (.cells c2 t2)).heap.size = w.heap.size + 1 + 1 := by simp
  rw [e] at h4
  exact ⟨h1.alloc _, h2.alloc _, h4, h3.tr (Ext.new _ _)⟩
theorem own_apart {w w' : World} {b1 b2 : Nat} {E E' : TypeId} {s s' n n' : Nat} {v v' : Value} {xs xs' : List Value} (h : w.ownsRow b1 E s v n xs) (k : w.ownsRow b2 E' s' v' n' xs') (hne : E' ≠ E) (hg : w.grownBy w' v.ownBlock) : w'.ownsRow b2 E' s' v' n' xs' := by
  rcases h.2 with ⟨rfl, _⟩ | ⟨g', cap, cur, rfl, _, hh, _⟩
  · exact k.kept hg (by cases hv : v'.ownBlock <;> simp [Value.ownBlock])
  · exact k.kept hg (.inr (own_ne k (g := g') (t := E) (cs := cur) hh hne))
theorem own_blk {w w' : World} {base g : Nat} {E t : TypeId} {s n : Nat} {v : Value} {xs : List Value} {cs : Array Value} (h : w.ownsRow base E s v n xs) (hg : w.grownBy w' v.ownBlock) (hb : Blk w g t cs) (hne : E ≠ t) : Blk w' g t cs :=
  hg.blk hb (fun e => own_ne h hb hne e.symm)
theorem sits_new2 (w : World) (o : Obj) (xs : List Value) (E : TypeId) : Sits ((w.alloc o).alloc (.cells xs.toArray E)) (some ⟨w.heap.size + 1, 0, none⟩) xs := by
  have h := Sits.new (w.alloc o) xs E
  rwa [World.size_alloc] at h
/-- what a function that returns a ledger and an error code gives back -/
def LePost (y : CL.Lg × Int) (w : World) (r : Ending) (w' : World) : Prop := ∃ v, r = .returned (.tuple #[v, .int .i64 y.2]) ∧ LgOwn w' 0 v y.1 ∧ Ext w w'
theorem LgV.zero (w : World) : LgV w (.agg #[.slice none 0 0, .slice none 0 0]) CL.noLg := ⟨none, 0, none, 0, rfl, Sits.nil, Sits.nil, Nat.le_refl _, Nat.le_refl _⟩
theorem LgOwn.zero (w : World) : LgOwn w 0 (.agg #[.slice none 0 0, .slice none 0 0]) CL.noLg := ⟨none, 0, none, 0, rfl, nil_own _ _ _ _, nil_own _ _ _ _, Nat.le_refl _, Nat.le_refl _⟩
theorem LgOwn.ext {w w' : World} {base : Nat} {v : Value} {x : CL.Lg} (h : LgOwn w base v x) (hx : Ext w w') : LgOwn w' base v x := by
  obtain ⟨A, c, A', c', rfl, h1, h2, h3⟩ := h; exact ⟨A, c, A', c', rfl, own_ext h1 hx, own_ext h2 hx, h3⟩
theorem LgOwn.only {w w' : World} {base g : Nat} {v : Value} {x : CL.Lg} {cs : Array Value} {t : TypeId} (h : LgOwn w base v x) (hb : Blk w g t cs) (ho : Only g w w') (h1 : 33 ≠ t) (h2 : 69 ≠ t) : LgOwn w' base v x := by
  obtain ⟨A, c, A', c', rfl, k1, k2, h3⟩ := h
  exact ⟨A, c, A', c', rfl, own_only k1 ho (own_ne k1 hb h1), own_only k2 ho (own_ne k2 hb h2), h3⟩
theorem LgOwn.view {w : World} {base : Nat} {v : Value} {x : CL.Lg} (h : LgOwn w base v x) : LgV w v x := by
  obtain ⟨A, c, A', c', rfl, h1, h2, h3, h4⟩ := h
  exact ⟨A, c, A', c', rfl, Sits.of_own h1, Sits.of_own h2, h3, h4⟩
theorem ledger.Valid_l (x : CL.Lg) (A : Option Addr) (n c : Nat) (A' : Option Addr) (n' c' : Nat) (w : World) (hn : n = x.es.length) (hn' : n' = x.ss.length) (h1 : Sits w A (ens x.es)) (h2 : Sits w A' (svl x.ss)) (h3 : n ≤ c) (h4 : n' ≤ c') (hf : Fine x) :
    Calls Try.prog 36 #[.agg #[.slice A n c, .slice A' n' c']] w fun r w' => r = .returned (.bool (CL.lval x)) ∧ Ext w w' := by
  subst hn hn'
  exact ledger.Valid_c x _ w ⟨A, c, A', c', rfl, h1, h2, h3, h4⟩ hf
theorem cutL_all (x : CL.Lg) : CL.cutL x x.es.length x.ss.length = x := by cases x; simp [CL.cutL]
set_option maxHeartbeats 3200000 in
set_option maxRecDepth 100000 in
theorem ledger.Record_c (x : CL.Lg) (e : CL.En) (v : Value) (w : World) (hv : LgV w v x) (hf : Fine x) (he : e.n.length ≤ maxLen) :
    Calls Try.prog 18 #[v, .agg #[.string ⟨e.n.toArray⟩, .int .i64 e.b.m, .int .i64 e.b.u, .int .i64 e.a.m, .int .i64 e.a.u]] w (LePost (CL.rcd x e) w) := by
  have hf' := hf
  obtain ⟨A, c, A', c', rfl, h1, h2, h3, h4⟩ := hv
  obtain ⟨k1, k2, k3⟩ := hf
  go_enter Try.func18, Try.ntmps18
  go_wp2_with fail
  obtain ⟨b1, b2, b3, hx0⟩ := box3 w #[.slice A x.es.length c, .slice A' x.ss.length c'] 31 #[.string ⟨e.n.toArray⟩, .int .i64 e.b.m, .int .i64 e.b.u, .int .i64 e.a.m, .int .i64 e.a.u] 33 #[.slice none 0 0, .slice none 0 0] 31
  have hz := hx0.size
  have b3l := b3.lt
  generalize (((w.alloc (.cells #[.slice A x.es.length c, .slice A' x.ss.length c'] 31)).alloc (.cells #[.string ⟨e.n.toArray⟩, .int .i64 e.b.m, .int .i64 e.b.u, .int .i64 e.a.m, .int .i64 e.a.u] 33)).alloc (.cells #[.slice none 0 0, .slice none 0 0] 31)) = W at *
  obtain ⟨e0, e1⟩ := b1.c2
  have VX := Lib.hid (fun W' (h : Ext w W') => ledger.Valid_l x A x.es.length c A' x.ss.length c' W' rfl rfl (h1.ext h) (h2.ext h) h3 h4 hf')
  cases hval : CL.lval x
  · have HF := Lib.hid (show CL.rcd x e = (CL.noLg, 2) by simp [CL.rcd, hval])
    go_wp2_with (go_at_call 36; (with_reducible refine (VX.out _ hx0).mono ?_); rintro r w2 ⟨rfl, hx2⟩; (have bb3 := b3.ext hx2); (obtain ⟨g0, g1⟩ := bb3.c2); (have n0 := bb3.frozen 0); (have n1 := bb3.frozen 1))
    obtain ⟨d0, d1⟩ := (bb3.set2 (.slice none 0 0) (.slice none 0 0)).c2
    refine bodyPost_ret (v := .tuple #[.agg #[.slice none 0 0, .slice none 0 0], .int .i64 2]) (by simp [results, Try.results18, go_sem, d0, d1]) rfl ?_
    unfold LePost
    rw [HF.out]
    exact ⟨_, rfl, LgOwn.zero _, (((hx0.tr hx2).setCell (p := ⟨w.heap.size + 1 + 1, 0, none⟩) (by simp only; omega) _).setCell (p := ⟨w.heap.size + 1 + 1, 1, none⟩) (by simp only; omega) _)⟩
  · have HL := Lib.hid (CL.lval_len hval)
    have CX := Lib.hid (fun W' (h : Ext w W') => ledger.cut_c x x.es.length x.ss.length (.agg #[.slice A x.es.length c, .slice A' x.ss.length c']) W' ⟨A, c, A', c', rfl, h1.ext h, h2.ext h, h3, h4⟩ (by omega) (by omega) (Nat.le_refl _) (Nat.le_refl _))
    have FN : Fine ⟨x.es ++ [e], x.ss⟩ := ⟨by have := HL.out; simp; omega, k2, fun e' he' => by
      rcases List.mem_append.1 he' with h | h
      · exact k3 _ h
      · simp at h; subst h; exact he⟩
    have VY := Lib.hid (fun W' A1 c1 A2 c2 h1 h2 h3 h4 => ledger.Valid_l ⟨x.es ++ [e], x.ss⟩ A1 (x.es.length + 1) c1 A2 x.ss.length c2 W' (by simp) rfl h1 h2 h3 h4 FN)
    have HLL := HL.out
    go_wp2_with (first
      | (go_at_call 36; (with_reducible refine (VX.out _ hx0).mono ?_); rintro r w2 ⟨rfl, hx2⟩; (have bb3 := b3.ext hx2); (have bb2 := b2.ext hx2); (obtain ⟨a0, a1⟩ := (b1.ext hx2).c2))
      | (go_at_call 45; (with_reducible refine (CX.out _ (hx0.tr hx2)).mono ?_); rintro r w3 ⟨v3, rfl, hl3, hx3⟩; (rw [cutL_all] at hl3); (obtain ⟨A1, c1, A2, c2, rfl, ho1, ho2, hc1, hc2⟩ := hl3); (obtain ⟨q0, q1, q2, q3, q4⟩ := ((bb2.ext hx3).alloc (.cells #[.slice A1 x.es.length c1, .slice A2 x.ss.length c2] 31)).c5))
      | (at_builtin; refine wpList_append_sits _ rfl (.tmp 20) (.tmp 22) _ rfl w2.heap.size 33 5 48 _ Try.underlying28 en_info rfl (by omega) _ _ _ rfl ((ho1.alloc _).alloc _) _ _ _ [.string ⟨e.n.toArray⟩, .int .i64 e.b.m, .int .i64 e.b.u, .int .i64 e.a.m, .int .i64 e.a.u] rfl rfl (sits_new2 _ _ _ _) (ens_one [e]) (by unfold maxLen; omega) (by omega) (by have := hx3.size; simp; omega) ?_; intro v5 w5 ho5 hb5 hg5;
         (have bo5 := own_blk ((ho1.alloc (.cells #[.slice A1 x.es.length c1, .slice A2 x.ss.length c2] 31)).alloc (.cells #[.string ⟨e.n.toArray⟩, .int .i64 e.b.m, .int .i64 e.b.u, .int .i64 e.a.m, .int .i64 e.a.u] 33)) hg5 ((Blk.new w3 31 #[.slice A1 x.es.length c1, .slice A2 x.ss.length c2]).alloc _) (by decide));
         (have ho2b := own_apart ((ho1.alloc (.cells #[.slice A1 x.es.length c1, .slice A2 x.ss.length c2] 31)).alloc (.cells #[.string ⟨e.n.toArray⟩, .int .i64 e.b.m, .int .i64 e.b.u, .int .i64 e.a.m, .int .i64 e.a.u] 33)) ((ho2.alloc _).alloc _) (by decide) hg5);
         (obtain ⟨A5, c5, rfl, hc5, _⟩ := own_form ho5); (have t0 := bo5.frozen 0); (obtain ⟨u0, u1⟩ := bo5.c2);
         (have hx5 : Ext w w5 := (((hx0.tr hx2).tr hx3).tr ((Ext.new _ _).tr (Ext.new _ _))).trans (hb5.mono (by have := hx0.size; have := hx2.size; omega)));
         (have ho5s := own_only ho5 (Only.rf.set (g := w3.heap.size) 0 (.slice A5 (x.es.length + 1) c5)) (own_ne ho5 bo5 (by decide)));
         (have ho2s := own_only ho2b (Only.rf.set (g := w3.heap.size) 0 (.slice A5 (x.es.length + 1) c5)) (own_ne ho2b bo5 (by decide)));
         (have bo6 := bo5.set 0 (.slice A5 (x.es.length + 1) c5));
         (have hx6 : Ext w (w5.setCell ⟨w3.heap.size, 0, none⟩ (.slice A5 (x.es.length + 1) c5)) := hx5.setCell (p := ⟨w3.heap.size, 0, none⟩) (by have := hx0.size; have := hx2.size; have := hx3.size; simp only; omega) _);
         (have SE : Sits (w5.setCell ⟨w3.heap.size, 0, none⟩ (.slice A5 (x.es.length + 1) c5)) A5 (ens (x.es ++ [e])) := (by rw [ens_append]; exact Sits.of_own ho5s));
         (have bb5 := own_blk ((ho1.alloc (.cells #[.slice A1 x.es.length c1, .slice A2 x.ss.length c2] 31)).alloc (.cells #[.string ⟨e.n.toArray⟩, .int .i64 e.b.m, .int .i64 e.b.u, .int .i64 e.a.m, .int .i64 e.a.u] 33)) hg5 ((((b3.ext hx2).ext hx3).alloc _).alloc _) (by decide));
         (have bb6 := bb5.only (Only.rf.set (g := w3.heap.size) 0 (.slice A5 (x.es.length + 1) c5)) (by have := hx2.size; have := hx3.size; omega)); (have SS := Sits.of_own ho2s))
      | (go_at_call 36; (with_reducible refine (VY.out _ _ _ _ _ SE SS hc5 hc2).mono ?_); rintro r w7 ⟨rfl, hx7⟩; (have bo7 := bo6.ext hx7); (have hz7 := hx7.size);
         (have bb7 := bb6.ext hx7);
         (obtain ⟨z0, z1⟩ := bo7.c2); (obtain ⟨y0, y1⟩ := bb7.c2); (have n0 := bb7.frozen 0); (have n1 := bb7.frozen 1))
      | go_in)
    · rename_i hb
      have hl : CL.lval ⟨x.es ++ [e], x.ss⟩ = false := by simpa using hb
      have HF := Lib.hid (show CL.rcd x e = (CL.noLg, 1) by simp [CL.rcd, hval, hl])
      obtain ⟨d0, d1⟩ := (bb7.set2 (.slice none 0 0) (.slice none 0 0)).c2
      refine bodyPost_ret (v := .tuple #[.agg #[.slice none 0 0, .slice none 0 0], .int .i64 1]) (by simp [results, Try.results18, go_sem, d0, d1]) rfl ?_
      unfold LePost
      rw [HF.out]
      exact ⟨_, rfl, LgOwn.zero _, (((hx6.tr hx7).setCell (p := ⟨w.heap.size + 1 + 1, 0, none⟩) (by simp only; omega) _).setCell (p := ⟨w.heap.size + 1 + 1, 1, none⟩) (by simp only; omega) _)⟩
    · rename_i hb
      have hl : CL.lval ⟨x.es ++ [e], x.ss⟩ = true := by simpa using hb
      have HF := Lib.hid (show CL.rcd x e = (⟨x.es ++ [e], x.ss⟩, 0) by simp [CL.rcd, hval, hl])
      obtain ⟨d0, d1⟩ := (bb7.set2 (.slice A5 (x.es.length + 1) c5) (.slice A2 x.ss.length c2)).c2
      refine bodyPost_ret (v := .tuple #[.agg #[.slice A5 (x.es.length + 1) c5, .slice A2 x.ss.length c2], .int .i64 0]) (by simp [results, Try.results18, go_sem, d0, d1]) rfl ?_
      unfold LePost
      rw [HF.out]
      have ho5t := own_only (own_ext ho5s hx7) (Only.rf.set2 (g := w.heap.size + 1 + 1) (.slice A5 (x.es.length + 1) c5) (.slice A2 x.ss.length c2)) (fun he => by have := (ho5s.lt _ he).1; have := hx2.size; omega)
      have ho2t := own_only (own_ext ho2s hx7) (Only.rf.set2 (g := w.heap.size + 1 + 1) (.slice A5 (x.es.length + 1) c5) (.slice A2 x.ss.length c2)) (fun he => by have := (ho2s.lt _ he).1; have := hx2.size; omega)
      refine ⟨_, rfl, ⟨A5, c5, A2, c2, by simp, ?_, own_le ho2t (Nat.zero_le _), by simpa using hc5, hc2⟩, (((hx6.tr hx7).setCell (p := ⟨w.heap.size + 1 + 1, 0, none⟩) (by simp only; omega) _).setCell (p := ⟨w.heap.size + 1 + 1, 1, none⟩) (by simp only; omega) _)⟩
      simp only
      rw [ens_append, List.length_append]
      exact own_le ho5t (Nat.zero_le _)
set_option maxHeartbeats 3200000 in
set_option maxRecDepth 100000 in
theorem ledger.Save_c (x : CL.Lg) (lb : Int) (v : Value) (w : World) (hv : LgV w v x) (hf : Fine x) :
    Calls Try.prog 20 #[v, .int .i64 lb] w (LePost (CL.sav x lb) w) := by
  have hf' := hf
  obtain ⟨A, c, A', c', rfl, h1, h2, h3, h4⟩ := hv
  obtain ⟨k1, k2, k3⟩ := hf
  go_enter Try.func20, Try.ntmps20
  go_wp2_with fail
  obtain ⟨b1, b3, hx0⟩ := two_rows w #[.slice A x.es.length c, .slice A' x.ss.length c'] 31 #[.slice none 0 0, .slice none 0 0] 31
  have hz := hx0.size
  have b3l := b3.lt
  generalize ((w.alloc (.cells #[.slice A x.es.length c, .slice A' x.ss.length c'] 31)).alloc (.cells #[.slice none 0 0, .slice none 0 0] 31)) = W at *
  obtain ⟨e0, e1⟩ := b1.c2
  have VX := Lib.hid (fun W' (h : Ext w W') => ledger.Valid_l x A x.es.length c A' x.ss.length c' W' rfl rfl (h1.ext h) (h2.ext h) h3 h4 hf')
  have PX := Lib.hid (fun W' (h : Ext w W') => ledger.place_c x.ss lb A' c' W' (by unfold maxLen; omega) (h2.ext h))
  cases hval : CL.lval x
  · have HF := Lib.hid (show CL.sav x lb = (CL.noLg, 2) by simp [CL.sav, hval])
    go_wp2_with (go_at_call 36; (with_reducible refine (VX.out _ hx0).mono ?_); rintro r w2 ⟨rfl, hx2⟩; (have bb3 := b3.ext hx2); (obtain ⟨a0, a1⟩ := (b1.ext hx2).c2); (obtain ⟨g0, g1⟩ := bb3.c2); (have n0 := bb3.frozen 0); (have n1 := bb3.frozen 1); (have hxx := hx0.tr hx2))
    obtain ⟨d0, d1⟩ := (bb3.set2 (.slice none 0 0) (.slice none 0 0)).c2
    refine bodyPost_ret (v := .tuple #[.agg #[.slice none 0 0, .slice none 0 0], .int .i64 2]) (by simp [results, Try.results20, go_sem, d0, d1]) rfl ?_
    unfold LePost
    rw [HF.out]
    exact ⟨_, rfl, LgOwn.zero _, ((hxx.setCell (p := ⟨w.heap.size + 1, 0, none⟩) (by simp only; omega) _).setCell (p := ⟨w.heap.size + 1, 1, none⟩) (by simp only; omega) _)⟩
  · have HL := Lib.hid (CL.lval_len hval)
    by_cases hb : lb < 1 ∨ 99 < lb
    · have HF := Lib.hid (show CL.sav x lb = (CL.noLg, 1) by simp only [CL.sav, hval, if_true, if_pos hb])
      have hb1 : (decide (lb < 1) || decide (99 < lb)) = true := by simpa using hb
      by_cases hb2 : lb < 1
      · go_wp2_with (go_at_call 36; (with_reducible refine (VX.out _ hx0).mono ?_); rintro r w2 ⟨rfl, hx2⟩; (have bb3 := b3.ext hx2); (obtain ⟨a0, a1⟩ := (b1.ext hx2).c2); (obtain ⟨g0, g1⟩ := bb3.c2); (have n0 := bb3.frozen 0); (have n1 := bb3.frozen 1); (have hxx := hx0.tr hx2))
        obtain ⟨d0, d1⟩ := (bb3.set2 (.slice none 0 0) (.slice none 0 0)).c2
        refine bodyPost_ret (v := .tuple #[.agg #[.slice none 0 0, .slice none 0 0], .int .i64 1]) (by simp [results, Try.results20, go_sem, d0, d1]) rfl ?_
        unfold LePost
        rw [HF.out]
        exact ⟨_, rfl, LgOwn.zero _, ((hxx.setCell (p := ⟨w.heap.size + 1, 0, none⟩) (by simp only; omega) _).setCell (p := ⟨w.heap.size + 1, 1, none⟩) (by simp only; omega) _)⟩
      · have hb3 : (99 : Int) < lb := by omega
        go_wp2_with (go_at_call 36; (with_reducible refine (VX.out _ hx0).mono ?_); rintro r w2 ⟨rfl, hx2⟩; (have bb3 := b3.ext hx2); (obtain ⟨a0, a1⟩ := (b1.ext hx2).c2); (obtain ⟨g0, g1⟩ := bb3.c2); (have n0 := bb3.frozen 0); (have n1 := bb3.frozen 1); (have hxx := hx0.tr hx2))
        obtain ⟨d0, d1⟩ := (bb3.set2 (.slice none 0 0) (.slice none 0 0)).c2
        refine bodyPost_ret (v := .tuple #[.agg #[.slice none 0 0, .slice none 0 0], .int .i64 1]) (by simp [results, Try.results20, go_sem, d0, d1]) rfl ?_
        unfold LePost
        rw [HF.out]
        exact ⟨_, rfl, LgOwn.zero _, ((hxx.setCell (p := ⟨w.heap.size + 1, 0, none⟩) (by simp only; omega) _).setCell (p := ⟨w.heap.size + 1, 1, none⟩) (by simp only; omega) _)⟩
    · have hb2 : (1 : Int) ≤ lb := by omega
      have hb3 : lb ≤ (99 : Int) := by omega
      have d1 : (decide (lb < 1)) = false := decide_eq_false (by omega)
      have d2 : (decide (99 < lb)) = false := decide_eq_false (by omega)
      by_cases hp : 0 ≤ CL.plc x.ss lb
      · have HF := Lib.hid (show CL.sav x lb = (CL.noLg, 11) by simp only [CL.sav, hval, if_true, if_neg hb, if_pos hp])
        go_wp2_with (first
            | (go_at_call 36; (with_reducible refine (VX.out _ hx0).mono ?_); rintro r w2 ⟨rfl, hx2⟩; (have bb3 := b3.ext hx2); (obtain ⟨a0, a1⟩ := (b1.ext hx2).c2); (obtain ⟨g0, g1⟩ := bb3.c2); (have n0 := bb3.frozen 0); (have n1 := bb3.frozen 1); (have hxx := hx0.tr hx2))
            | (go_at_call 46; (with_reducible refine (PX.out _ hxx).mono ?_); rintro r w2p ⟨rfl, hx2p⟩; (have bb3 := bb3.ext hx2p); (obtain ⟨a0, a1⟩ := ((b1.ext hx2).ext hx2p).c2); (obtain ⟨g0, g1⟩ := bb3.c2); (have n0 := bb3.frozen 0); (have n1 := bb3.frozen 1); (have hxp := hxx.tr hx2p)))
        obtain ⟨d0, d1⟩ := (bb3.set2 (.slice none 0 0) (.slice none 0 0)).c2
        refine bodyPost_ret (v := .tuple #[.agg #[.slice none 0 0, .slice none 0 0], .int .i64 11]) (by simp [results, Try.results20, go_sem, d0, d1]) rfl ?_
        unfold LePost
        rw [HF.out]
        exact ⟨_, rfl, LgOwn.zero _, ((hxp.setCell (p := ⟨w.heap.size + 1, 0, none⟩) (by simp only; omega) _).setCell (p := ⟨w.heap.size + 1, 1, none⟩) (by simp only; omega) _)⟩
      · have d3 : (decide (0 ≤ CL.plc x.ss lb)) = false := decide_eq_false hp
        by_cases h44 : 4 ≤ x.ss.length
        · have HF := Lib.hid (show CL.sav x lb = (CL.noLg, 4) by simp only [CL.sav, hval, if_true, if_neg hb, if_neg hp, if_pos h44])
          have h44' : (4 : Int) ≤ (x.ss.length : Int) := by omega
          go_wp2_with (first
            | (go_at_call 36; (with_reducible refine (VX.out _ hx0).mono ?_); rintro r w2 ⟨rfl, hx2⟩; (have bb3 := b3.ext hx2); (obtain ⟨a0, a1⟩ := (b1.ext hx2).c2); (obtain ⟨g0, g1⟩ := bb3.c2); (have n0 := bb3.frozen 0); (have n1 := bb3.frozen 1); (have hxx := hx0.tr hx2))
            | (go_at_call 46; (with_reducible refine (PX.out _ hxx).mono ?_); rintro r w2p ⟨rfl, hx2p⟩; (have bb3 := bb3.ext hx2p); (obtain ⟨a0, a1⟩ := ((b1.ext hx2).ext hx2p).c2); (obtain ⟨g0, g1⟩ := bb3.c2); (have n0 := bb3.frozen 0); (have n1 := bb3.frozen 1); (have hxp := hxx.tr hx2p)))
          obtain ⟨d0, d1⟩ := (bb3.set2 (.slice none 0 0) (.slice none 0 0)).c2
          refine bodyPost_ret (v := .tuple #[.agg #[.slice none 0 0, .slice none 0 0], .int .i64 4]) (by simp [results, Try.results20, go_sem, d0, d1]) rfl ?_
          unfold LePost
          rw [HF.out]
          exact ⟨_, rfl, LgOwn.zero _, ((hxp.setCell (p := ⟨w.heap.size + 1, 0, none⟩) (by simp only; omega) _).setCell (p := ⟨w.heap.size + 1, 1, none⟩) (by simp only; omega) _)⟩
        · have HF := Lib.hid (show CL.sav x lb = (⟨x.es, x.ss ++ [⟨lb, x.es.length⟩]⟩, 0) by simp only [CL.sav, hval, if_true, if_neg hb, if_neg hp, if_neg h44])
          have h44' : (x.ss.length : Int) < 4 := by omega
          have d4 : (decide (4 ≤ (x.ss.length : Int))) = false := decide_eq_false (by omega)
          have CX := Lib.hid (fun W' (h : Ext w W') => ledger.cut_c x x.es.length x.ss.length (.agg #[.slice A x.es.length c, .slice A' x.ss.length c']) W' ⟨A, c, A', c', rfl, h1.ext h, h2.ext h, h3, h4⟩ (by omega) (by omega) (Nat.le_refl _) (Nat.le_refl _))
          have HLL := HL.out
          go_wp2_with (first
            | (go_at_call 36; (with_reducible refine (VX.out _ hx0).mono ?_); rintro r w2 ⟨rfl, hx2⟩; (have bb3 := b3.ext hx2); (obtain ⟨a0, a1⟩ := (b1.ext hx2).c2); (obtain ⟨g0, g1⟩ := bb3.c2); (have n0 := bb3.frozen 0); (have n1 := bb3.frozen 1); (have hxx := hx0.tr hx2))
            | (go_at_call 46; (with_reducible refine (PX.out _ hxx).mono ?_); rintro r w2p ⟨rfl, hx2p⟩; (have bb3 := bb3.ext hx2p); (obtain ⟨a0, a1⟩ := ((b1.ext hx2).ext hx2p).c2); (obtain ⟨g0, g1⟩ := bb3.c2); (have n0 := bb3.frozen 0); (have n1 := bb3.frozen 1); (have hxp := hxx.tr hx2p))
            | (go_at_call 45; (with_reducible refine (CX.out _ hxp).mono ?_); rintro r w3 ⟨v3, rfl, hl3, hx3⟩; (rw [cutL_all] at hl3); (obtain ⟨A1, c1, A2, c2, rfl, ho1, ho2, hc1, hc2⟩ := hl3); (obtain ⟨q0, q1⟩ := ((((b1.ext hx2).ext hx2p).ext hx3).alloc (.cells #[.slice A1 x.es.length c1, .slice A2 x.ss.length c2] 31)).c2))
            | (at_builtin; refine wpList_append_sits _ rfl (.tmp 42) (.tmp 48) _ rfl w2p.heap.size 69 2 16 _ Try.underlying29 svr_info rfl (by omega) _ _ _ rfl ((ho2.alloc _).alloc _) _ _ _ [.int .i64 lb, .int .i64 (x.es.length : Nat)] rfl rfl (sits_new2 _ _ _ _) (svl_one [⟨lb, x.es.length⟩]) (by unfold maxLen; omega) (by omega) (by have := hx3.size; simp; omega) ?_; intro v5 w5 ho5 hb5 hg5;
               (have bo5 := own_blk ((ho2.alloc (.cells #[.slice A1 x.es.length c1, .slice A2 x.ss.length c2] 31)).alloc (.cells #[.int .i64 lb, .int .i64 (x.es.length : Nat)] 69)) hg5 ((Blk.new w3 31 #[.slice A1 x.es.length c1, .slice A2 x.ss.length c2]).alloc _) (by decide));
               (have ho1b := own_apart ((ho2.alloc (.cells #[.slice A1 x.es.length c1, .slice A2 x.ss.length c2] 31)).alloc (.cells #[.int .i64 lb, .int .i64 (x.es.length : Nat)] 69)) ((ho1.alloc _).alloc _) (by decide) hg5);
               (obtain ⟨A5, c5, rfl, hc5, _⟩ := own_form ho5); (have t1 := bo5.frozen 1); (obtain ⟨u0, u1⟩ := bo5.c2);
               (have hx5 : Ext w w5 := ((hxp.tr hx3).tr ((Ext.new _ _).tr (Ext.new _ _))).trans (hb5.mono (by have := hxp.size; omega)));
               (have ho5s := own_only ho5 (Only.rf.set (g := w3.heap.size) 1 (.slice A5 (x.ss.length + 1) c5)) (own_ne ho5 bo5 (by decide)));
               (have ho1s := own_only ho1b (Only.rf.set (g := w3.heap.size) 1 (.slice A5 (x.ss.length + 1) c5)) (own_ne ho1b bo5 (by decide)));
               (have bo6 := bo5.set 1 (.slice A5 (x.ss.length + 1) c5));
               (have hx6 : Ext w (w5.setCell ⟨w3.heap.size, 1, none⟩ (.slice A5 (x.ss.length + 1) c5)) := hx5.setCell (p := ⟨w3.heap.size, 1, none⟩) (by have := hxp.size; have := hx3.size; simp only; omega) _);
               (have bb5 := own_blk ((ho2.alloc (.cells #[.slice A1 x.es.length c1, .slice A2 x.ss.length c2] 31)).alloc (.cells #[.int .i64 lb, .int .i64 (x.es.length : Nat)] 69)) hg5 (((bb3.ext hx3).alloc _).alloc _) (by decide));
               (have bb6 := bb5.only (Only.rf.set (g := w3.heap.size) 1 (.slice A5 (x.ss.length + 1) c5)) (by have := hx2.size; have := hx2p.size; have := hx3.size; omega));
               (obtain ⟨z0, z1⟩ := bo6.c2); (obtain ⟨y0, y1⟩ := bb6.c2); (have n0 := bb6.frozen 0); (have n1 := bb6.frozen 1))
            | go_in)
          obtain ⟨d0, d1⟩ := (bb6.set2 (.slice A1 x.es.length c1) (.slice A5 (x.ss.length + 1) c5)).c2
          refine bodyPost_ret (v := .tuple #[.agg #[.slice A1 x.es.length c1, .slice A5 (x.ss.length + 1) c5], .int .i64 0]) (by simp [results, Try.results20, go_sem, d0, d1]) rfl ?_
          unfold LePost
          rw [HF.out]
          have ho5t := own_only ho5s (Only.rf.set2 (g := w.heap.size + 1) (.slice A1 x.es.length c1) (.slice A5 (x.ss.length + 1) c5)) (fun he => by have := (ho5s.lt _ he).1; have := hx2.size; have := hx2p.size; omega)
          have ho1t := own_only ho1s (Only.rf.set2 (g := w.heap.size + 1) (.slice A1 x.es.length c1) (.slice A5 (x.ss.length + 1) c5)) (fun he => by have := (ho1s.lt _ he).1; have := hx2.size; have := hx2p.size; omega)
          refine ⟨_, rfl, ⟨A1, c1, A5, c5, by simp, own_le ho1t (Nat.zero_le _), ?_, hc1, by simpa using hc5⟩, ((hx6.setCell (p := ⟨w.heap.size + 1, 0, none⟩) (by simp only; omega) _).setCell (p := ⟨w.heap.size + 1, 1, none⟩) (by simp only; omega) _)⟩
          simp only
          rw [svl_append, List.length_append]
          exact own_le ho5t (Nat.zero_le _)
end Go.Proofs.Ytaebindbadfaaaa
