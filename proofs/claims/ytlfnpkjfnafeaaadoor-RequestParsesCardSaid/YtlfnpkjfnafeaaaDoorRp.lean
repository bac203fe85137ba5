
/- The reference's reader, tenth part: Parse. -/
import Derived.Test.YtlfnpkjfnafeaaaDoorRr9
import Derived.Test.YtlfnpkjfnafeaaaDoorPk3
namespace Go.Proofs.YtlfnpkjfnafeaaaDoor
open Go.RowKit
set_option linter.unusedVariables false
set_option linter.unusedSimpArgs false
set_option maxRecDepth 100000
/-- the results of the reference's Parse, read out of their block -/
theorem rparse_res (T : Array Value) (W : World) (p : Nat) (c0 c1 c2 c3 c4 c5 c6 a e : Value) (h2 : T[2]? = some (.pointer (some ⟨p, 0, none⟩))) (h3 : T[3]? = some a) (h4 : T[4]? = some e)
    (b2 : Blk W p 30 #[c0, c1, c2, c3, c4, c5, c6]) : (results Tryd.f18 T).run Tryd.prog W = .ok (.tuple #[.agg #[c0, c1, c2, c3, c4, c5, c6], a, e]) W := by
  have p0 : W.cell? ⟨p, 0, none⟩ = some c0 := b2.cell 0
  have p1 : W.cell? ⟨p, 1, none⟩ = some c1 := b2.cell 1
  have p2 : W.cell? ⟨p, 2, none⟩ = some c2 := b2.cell 2
  have p3 : W.cell? ⟨p, 3, none⟩ = some c3 := b2.cell 3
  have p4 : W.cell? ⟨p, 4, none⟩ = some c4 := b2.cell 4
  have p5 : W.cell? ⟨p, 5, none⟩ = some c5 := b2.cell 5
  have p6 : W.cell? ⟨p, 6, none⟩ = some c6 := b2.cell 6
  simp [results, Tryd.results18, go_sem, h2, h3, h4, p0, p1, p2, p3, p4, p5, p6]
set_option maxHeartbeats 1600000 in
theorem rParse_lex (s : List UInt8) (w : World) (HT : ∀ w, Calls Tryd.prog 25 #[.string ⟨s.toArray⟩] w (TokPost s w)) (he : (CL.tokens s).2.2 ≠ 0) : Calls Tryd.prog 18 #[.string ⟨s.toArray⟩] w (ParsePost s w) := by
  have hP := Lib.hid (show CL.parseS s = (CL.noRq, (CL.tokens s).2.1, (CL.tokens s).2.2) by unfold CL.parseS; rw [if_pos he])
  have hd : ((CL.tokens s).2.2 != 0) = true := by simpa using he
  have hx0 := Ext.new w (.cells #[.int .i64 0, .string ⟨#[]⟩, .int .i64 0, .int .i64 0, .slice none 0 0, .int .i64 0, .int .i64 0] 30)
  have bR := Blk.new w 30 #[.int .i64 0, .string ⟨#[]⟩, .int .i64 0, .int .i64 0, .slice none 0 0, .int .i64 0, .int .i64 0]
  clear he
  go_enter Tryd.func18, Tryd.ntmps18
  go_wp2_with fail
  generalize (w.alloc (.cells #[.int .i64 0, .string ⟨#[]⟩, .int .i64 0, .int .i64 0, .slice none 0 0, .int .i64 0, .int .i64 0] 30)) = W at *
  refine (HT W).mono ?_
  rintro e w1 ⟨v, rfl, hown, hx1⟩
  have bR1 := Lib.hid (bR.ext hx1)
  have hx := hx0.tr hx1
  clear hown
  go_wp2_with (with_reducible refine is_store 30 (.tmp 2) (.tmp 18) rfl ?_; refine wpList_store_blk rfl rfl 30 (.tmp 2) (.tmp 18) rfl w.heap.size #[.int .i64 0, .string ⟨#[]⟩, .int .i64 0, .int .i64 0, .slice none 0 0, .int .i64 0, .int .i64 0] rfl rfl _ _ bR1.out 7 rq_isz rfl rfl (by simp [Value.oneCell']) ?_; intro w8 hB8 ho8; replace hB8 := Lib.hid hB8; replace ho8 := Lib.hid ho8)
  refine bodyPost_ret (rparse_res _ _ w.heap.size _ _ _ _ _ _ _ _ _ rfl rfl rfl hB8.out) rfl ?_
  unfold ParsePost
  rw [hP.out]
  exact ⟨[.int .i64 0, .string ⟨#[]⟩, .int .i64 0, .int .i64 0, .slice none 0 0], rfl, RdF.leaf _ _ _ _ 0 CL.noAt (by simp [CL.noAt, maxLen]), hx.only ho8.out (Nat.le_refl _)⟩
set_option maxHeartbeats 6400000 in
theorem rParse_ok (s : List UInt8) (w : World) (HT : ∀ w, Calls Tryd.prog 25 #[.string ⟨s.toArray⟩] w (TokPost s w)) (he : (CL.tokens s).2.2 = 0) : Calls Tryd.prog 18 #[.string ⟨s.toArray⟩] w (ParsePost s w) := by
  have hn := tokens_count7 s
  have hOk := CL.tokens_TkOk he
  have hPl := (CL.tokens_Pl he).last
  have h3 := CL.tokens_t3 he
  have hP := parse_parR he
  obtain ⟨all, hall⟩ : ∃ all, (CL.tokens s).1 = all := ⟨_, rfl⟩
  rw [hall] at hn hOk hPl h3 hP
  have hP := Lib.hid hP
  have HERR := Lib.hid (fun (x m : Int) (w6 : World) (hx6 : Ext w w6) (hr : CL.parseT all = .error (x, m)) => show ParsePost s w (.returned (.tuple #[.agg #[.int .i64 0, .string ⟨#[]⟩, .int .i64 0, .int .i64 0, .slice none 0 0, .int .i64 0, .int .i64 0], .int .i64 x, .int .i64 m])) w6 by
    unfold ParsePost
    rw [hP.out, hr]
    exact ⟨[.int .i64 0, .string ⟨#[]⟩, .int .i64 0, .int .i64 0, .slice none 0 0], rfl, RdF.leaf _ _ _ _ 0 CL.noAt (by simp [CL.noAt, maxLen]), hx6⟩)
  have hx0 := Ext.new w (.cells #[.int .i64 0, .string ⟨#[]⟩, .int .i64 0, .int .i64 0, .slice none 0 0, .int .i64 0, .int .i64 0] 30)
  have bR := Blk.new w 30 #[.int .i64 0, .string ⟨#[]⟩, .int .i64 0, .int .i64 0, .slice none 0 0, .int .i64 0, .int .i64 0]
  go_enter Tryd.func18, Tryd.ntmps18
  go_wp2_with fail
  generalize (w.alloc (.cells #[.int .i64 0, .string ⟨#[]⟩, .int .i64 0, .int .i64 0, .slice none 0 0, .int .i64 0, .int .i64 0] 30)) = W at *
  refine (HT W).mono ?_
  rintro e w1 ⟨v, rfl, hown, hx1⟩
  rw [he]
  rw [hall] at hown
  obtain ⟨A, c, rfl, hcl, hcm⟩ := own_form hown
  have bR1 := bR.ext hx1
  have hx := hx0.tr hx1
  have hpg := bR1.lt
  have hSB := (SitsB.of (Sits.of_own hown))
  obtain ⟨hl0, hlast⟩ := hPl
  generalize (CL.tokens s).2.1 = at1
  clear hown he hall HT hcl hcm
  go_wp2_with fail
  have hx2a := Ext.new w1 (.cells #[.slice A all.length c, .int .i64 0, .int .i64 0, .slice none 0 0, .int .i64 0, .int .i64 0] 76)
  have hx2 := hx2a.tr (Ext.new (w1.alloc (.cells #[.slice A all.length c, .int .i64 0, .int .i64 0, .slice none 0 0, .int .i64 0, .int .i64 0] 76)) (.cells #[.int .i64 0, .string ⟨#[]⟩, .int .i64 0, .int .i64 0, .slice none 0 0, .int .i64 0, .int .i64 0] 30))
  have bG := (Blk.new w1 76 #[.slice A all.length c, .int .i64 0, .int .i64 0, .slice none 0 0, .int .i64 0, .int .i64 0]).alloc (.cells #[.int .i64 0, .string ⟨#[]⟩, .int .i64 0, .int .i64 0, .slice none 0 0, .int .i64 0, .int .i64 0] 30)
  have bQ := Blk.new (w1.alloc (.cells #[.slice A all.length c, .int .i64 0, .int .i64 0, .slice none 0 0, .int .i64 0, .int .i64 0] 76)) 30 #[.int .i64 0, .string ⟨#[]⟩, .int .i64 0, .int .i64 0, .slice none 0 0, .int .i64 0, .int .i64 0]
  simp only [World.size_alloc] at bQ
  have hz2 : ((w1.alloc (.cells #[.slice A all.length c, .int .i64 0, .int .i64 0, .slice none 0 0, .int .i64 0, .int .i64 0] 76)).alloc (.cells #[.int .i64 0, .string ⟨#[]⟩, .int .i64 0, .int .i64 0, .slice none 0 0, .int .i64 0, .int .i64 0] 30)).heap.size = w1.heap.size + 2 := by simp
  have bR2 := bR1.ext hx2
  have hSB2 := hSB.below (hx2.mono (Nat.le_refl _))
  have hxW := hx.tr hx2
  clear bR1 bR hx hx0 hx1 hx2a hx2 hSB
  generalize ((w1.alloc (.cells #[.slice A all.length c, .int .i64 0, .int .i64 0, .slice none 0 0, .int .i64 0, .int .i64 0] 76)).alloc (.cells #[.int .i64 0, .string ⟨#[]⟩, .int .i64 0, .int .i64 0, .slice none 0 0, .int .i64 0, .int .i64 0] 30)) = W2 at *
  generalize w1.heap.size = g at *
  have HP0 : RSt W2 g g g A c all (.slice none 0 0) 0 ⟨0, [], all⟩ :=
    ⟨hl0, fun _ => by rw [hlast], rfl, bG, ⟨rfl, .inl ⟨rfl, rfl⟩⟩, hSB2, Nat.le_refl _, Nat.le_refl _, by omega, by omega, by simp, by simp, hOk⟩
  have HX := reader.expr_c 4 1 rfl (by decide) _ _ _ _ _ _ _ _ _ _ HP0 (Nat.zero_le _) h3
  clear hl0 hlast hOk hn h3 hSB2 bG
  cases hx : CL.exprP 4 ⟨0, [], all⟩ with
  | error q =>
    have hT : CL.parseT all = .error (q.1, q.2) := by unfold CL.parseT; rw [hx]; rfl
    refine HX.mono ?_
    intro e w5 hp
    obtain ⟨⟨i5, n5, m5, u5, A5, l5, c5, rfl⟩, hq0, herr, hcg⟩ := hp.er hx
    have bR5 := Rl.Chg.blk hcg bR2 (fun e => e.elim (fun e => by omega) (fun e => by simp [Value.ownBlock] at e))
    have bQ5 := Lib.hid (Rl.Chg.blk hcg bQ (fun e => e.elim (fun e => by omega) (fun e => by simp [Value.ownBlock] at e)))
    have hx5 : Ext w w5 := Rl.Chg.tr_ext hxW hcg (fun b hb => hb.elim (fun e => by omega) (fun e => by simp [Value.ownBlock] at e))
    have hz5 := hcg.size
    clear hp HX hxW bR2 bQ hcg hx HP0
    go_wp2_with (with_reducible refine is_store 28 (.tmp 26) (.tmp 25) rfl ?_; refine wpList_store_rq rfl rfl 28 (.tmp 26) (.tmp 25) rfl (g + 1) (.int .i64 i5) (.string n5) (.int .i64 m5) (.int .i64 u5) (.slice A5 l5 c5) rfl rfl _ bQ5.out ex_isz (by simp [Value.oneCell']) ?_; intro w6 bQ6 ho6; replace bQ6 := Lib.hid bQ6; replace ho6 := Lib.hid ho6)
    have herr6 := herr.only ho6.out (show g ≠ g + 1 by omega)
    have bR6 := bR5.only ho6.out (by omega)
    have hx6 := hx5.only ho6.out (by omega)
    have hz6 := ho6.out.size
    refine (reader.option_err w6 g q.1 q.2 7 _ hq0 herr6).mono ?_
    rintro e w7 ⟨rfl, rfl⟩
    have q5 := bQ6.out.cell 5
    have qf5 := bQ6.out.frozen 5
    clear herr bQ5 bR5 hx5 ho6 hz5
    go_wp2_with fail
    have ho7 := Only.rf.set (a := w6) (w := w6) (g := g + 1) 5 (.int .i64 0)
    have bQ7 := bQ6.out.set 5 (.int .i64 0)
    have herr7 := herr6.only ho7 (show g ≠ g + 1 by omega)
    have bR7 := bR6.only ho7 (by omega)
    have hx7 := hx6.only ho7 (by omega)
    clear ho7 q5 qf5 bQ6 herr6 bR6 hx6 hz6
    generalize w6.setCell ⟨g + 1, 5, none⟩ (.int .i64 0) = w7 at *
    refine (reader.option_err w7 g q.1 q.2 1000 _ hq0 herr7).mono ?_
    rintro e w8 ⟨rfl, rfl⟩
    have q6 := bQ7.cell 6
    have qf6 := bQ7.frozen 6
    have herrT := Lib.hid (herr7.only (Only.rf.set (g := g + 1) 6 (.int .i64 0)) (show g ≠ g + 1 by omega))
    have bRT := Lib.hid (bR7.only (Only.rf.set (g := g + 1) 6 (.int .i64 0)) (by omega))
    have hxT := Lib.hid (hx7.only (Only.rf.set (g := g + 1) 6 (.int .i64 0)) (by omega))
    go_wp2_with fail
    clear q6 qf6 bQ7 herr7 bR7 hx7
    generalize w7.setCell ⟨g + 1, 6, none⟩ (.int .i64 0) = w8 at *
    -- at region 9, in the world w8: an error is noted
    have herrC := herrT.out
    obtain ⟨d0, d1, d2, d3, hbg⟩ := herrC
    have t4 : (w8).cell? ⟨g, 4, none⟩ = some (.int .i64 q.2) := hbg.cell 4
    have t5 : (w8).cell? ⟨g, 5, none⟩ = some (.int .i64 q.1) := hbg.cell 5
    have hqz : (q.2 != 0) = true := bne_iff_ne.2 hq0
    have hqf : (q.2 == 0) = false := by simpa using hq0
    go_quiet (fail)
    replace herrT := Lib.hid (show RErr (World.drewN (w8) nq) g q.1 q.2 from ⟨_, _, _, _, hbg.drewN nq⟩)
    replace bRT := Lib.hid (bRT.out.drewN nq)
    replace hxT := Lib.hid (Ext.drewN hxT.out nq)
    clear t4 t5 hqf hbg hqz
    generalize World.drewN (w8) nq = w9 at *
    -- at region 11, in the world w9: an error is noted
    have herrC := herrT.out
    obtain ⟨d0, d1, d2, d3, hbg⟩ := herrC
    have t4 : (w9).cell? ⟨g, 4, none⟩ = some (.int .i64 q.2) := hbg.cell 4
    have t5 : (w9).cell? ⟨g, 5, none⟩ = some (.int .i64 q.1) := hbg.cell 5
    have hqz : ((q.2 : Int) != 0) = true := bne_iff_ne.2 hq0
    have p0 := bRT.out.cell 0
    have p1 := bRT.out.cell 1
    have p2 := bRT.out.cell 2
    have p3 := bRT.out.cell 3
    have p4 := bRT.out.cell 4
    have p5 := bRT.out.cell 5
    have p6 := bRT.out.cell 6
    have pf := bRT.out.frozen
    go_wp2_with fail
    go_region
    go_wp2
    have n1 := Lib.hid (((((((bRT.out.set 0 (.int .i64 0)).set 1 (.string ⟨#[]⟩)).set 2 (.int .i64 0)).set 3 (.int .i64 0)).set 4 (.slice none 0 0)).set 5 (.int .i64 0)).set 6 (.int .i64 0))
    have o1 : Only w.heap.size (w9) ((((((((w9).setCell ⟨w.heap.size, 0, none⟩ (.int .i64 0)).setCell ⟨w.heap.size, 1, none⟩ (.string ⟨#[]⟩)).setCell ⟨w.heap.size, 2, none⟩ (.int .i64 0)).setCell ⟨w.heap.size, 3, none⟩ (.int .i64 0)).setCell ⟨w.heap.size, 4, none⟩ (.slice none 0 0)).setCell ⟨w.heap.size, 5, none⟩ (.int .i64 0)).setCell ⟨w.heap.size, 6, none⟩ (.int .i64 0)) :=
      ((((((Only.rf.set 0 _).set 1 _).set 2 _).set 3 _).set 4 _).set 5 _).set 6 _
    have hx3 := hxT.out.only o1 (Nat.le_refl _)
    generalize ((((((((w9).setCell ⟨w.heap.size, 0, none⟩ (.int .i64 0)).setCell ⟨w.heap.size, 1, none⟩ (.string ⟨#[]⟩)).setCell ⟨w.heap.size, 2, none⟩ (.int .i64 0)).setCell ⟨w.heap.size, 3, none⟩ (.int .i64 0)).setCell ⟨w.heap.size, 4, none⟩ (.slice none 0 0)).setCell ⟨w.heap.size, 5, none⟩ (.int .i64 0)).setCell ⟨w.heap.size, 6, none⟩ (.int .i64 0)) = w3 at *
    refine bodyPost_ret (rparse_res _ _ w.heap.size _ _ _ _ _ _ _ _ _ rfl rfl rfl (n1.out.ext (Ext.drawn _))) rfl ?_
    exact HERR.out _ _ _ (hx3.tr (Ext.drawn _)) hT
  | ok z =>
    obtain ⟨x, s1⟩ := z
    refine HX.mono ?_
    intro e w5 hp
    obtain ⟨i5, n5, m5, u5, A5, l5, c5, v5, k5, rfl, hp5, hm5, hrd5⟩ := hp.ok hx
    have hnp : ∀ {w' : World} {k' : Nat} {s' : CL.PS} {T : TypeId} {cs : Array Value} {b : Nat}, RSt w' g g g A c all v5 k' s' → Blk w' b T cs → 25 ≠ T → v5.ownBlock ≠ some b := fun h1 h2 h3 => own_ne h1.own h2 h3
    have bR5 := bR2.mv hm5 (by omega) (fun e => by simp [Value.ownBlock] at e)
    have bQ5 := Lib.hid (bQ.mv hm5 (by omega) (fun e => by simp [Value.ownBlock] at e))
    have hx5 : Ext w w5 := hxW.trans ((HP0.below hm5).mono (by omega))
    have hz5 := hm5.chg.size
    clear hm5 hp HX hxW bR2 bQ HP0
    go_wp2_with (with_reducible refine is_store 28 (.tmp 26) (.tmp 25) rfl ?_; refine wpList_store_rq rfl rfl 28 (.tmp 26) (.tmp 25) rfl (g + 1) (.int .i64 i5) (.string n5) (.int .i64 m5) (.int .i64 u5) (.slice A5 l5 c5) rfl rfl _ bQ5.out ex_isz (by simp [Value.oneCell']) ?_; intro w6 bQ6 ho6; replace bQ6 := Lib.hid bQ6; replace ho6 := Lib.hid ho6)
    have hp6 := hp5.only (hnp hp5 bQ5.out (by decide)) (show g ≠ g + 1 by omega) (show g ≤ g + 1 by omega) ho6.out
    have bR6 := bR5.only ho6.out (by omega)
    have hx6 : Ext w w6 := hx5.only ho6.out (by omega)
    have hrd6 := hrd5.go (Rl.Chg.of_grown (E := fun b => b = g + 1) ho6.out (fun y e => by injection e with e; exact e.symm)) (fun b hb => .inr (by omega)) (fun y hy => .inl hy)
    have hz6 := ho6.out.size
    clear hrd5 hp5 bR5 hx5 bQ5 ho6
    refine (reader.option_c hp6 [112, 114, 105, 111] 7).mono ?_
    rintro e w8 ⟨y1, rfl, hrp, hm8, hyy⟩
    have bR8 := bR6.mv hm8 (by omega) (hnp hp6 bR6 (by decide))
    have bQ8 := bQ6.out.mv hm8 (by omega) (hnp hp6 bQ6.out (by decide))
    have hx8 : Ext w w8 := hx6.trans ((hp6.below hm8).mono (by omega))
    have hrd8 := hrd6.go hm8.chg (fun b hb => by rcases hb with hb | hb; exact .inr (by omega); exact .inl (by simp [hb])) (fun y hy => .inl hy)
    have hz8 := hm8.chg.size
    have q5 := bQ8.cell 5
    have qf5 := bQ8.frozen 5
    have HRP := Lib.hid hrp
    have HYY := Lib.hid hyy
    have bQ8 := Lib.hid bQ8
    have bR8 := Lib.hid bR8
    have hrd8 := Lib.hid hrd8
    have hx8 := Lib.hid hx8
    clear hrd6 hp6 bR6 hx6 bQ6 hm8 hrp hyy
    go_wp2_with fail
    have ho7 := Only.rf.set (a := w8) (w := w8) (g := g + 1) 5 (.int .i64 y1)
    have bQ7 : Blk (w8.setCell ⟨g + 1, 5, none⟩ (.int .i64 y1)) (g + 1) 30 #[.int .i64 i5, .string n5, .int .i64 m5, .int .i64 u5, .slice A5 l5 c5, .int .i64 y1, .int .i64 0] := bQ8.out.set 5 (.int .i64 y1)
    have bR7 := bR8.out.only ho7 (by omega)
    have hx7 := hx8.out.only ho7 (by omega)
    have hrd7 := hrd8.out.go (Rl.Chg.of_grown (E := fun b => b = g + 1) ho7 (fun y e => by injection e with e; exact e.symm)) (fun b hb => .inr (by omega)) (fun y hy => .inl hy)
    have hz7 := ho7.size
    have hrp := HRP.out
    cases ho1 : CL.optP [112, 114, 105, 111] 7 s1 with
    | error q =>
      have hT : CL.parseT all = .error (q.1, q.2) := by unfold CL.parseT CL.wPrio; rw [hx, CL.bind_ok, ho1]; rfl
      rw [ho1] at hrp
      obtain ⟨hq0, herr⟩ := hrp
      have herr7 := herr.only ho7 (show g ≠ g + 1 by omega)
      clear herr HRP HYY bR8 hx8 hrd8 hrd7 bQ8 q5 qf5 ho7 ho1 hx hnp hz8
      generalize w8.setCell ⟨g + 1, 5, none⟩ (.int .i64 y1) = w7 at *
      refine (reader.option_err w7 g q.1 q.2 1000 _ hq0 herr7).mono ?_
      rintro e w8 ⟨rfl, rfl⟩
      have q6 := bQ7.cell 6
      have qf6 := bQ7.frozen 6
      have herrT := Lib.hid (herr7.only (Only.rf.set (g := g + 1) 6 (.int .i64 0)) (show g ≠ g + 1 by omega))
      have bRT := Lib.hid (bR7.only (Only.rf.set (g := g + 1) 6 (.int .i64 0)) (by omega))
      have hxT := Lib.hid (hx7.only (Only.rf.set (g := g + 1) 6 (.int .i64 0)) (by omega))
      go_wp2_with fail
      clear q6 qf6 bQ7 herr7 bR7 hx7
      generalize w7.setCell ⟨g + 1, 6, none⟩ (.int .i64 0) = w8 at *
      -- at region 9, in the world w8: an error is noted
      have herrC := herrT.out
      obtain ⟨d0, d1, d2, d3, hbg⟩ := herrC
      have t4 : (w8).cell? ⟨g, 4, none⟩ = some (.int .i64 q.2) := hbg.cell 4
      have t5 : (w8).cell? ⟨g, 5, none⟩ = some (.int .i64 q.1) := hbg.cell 5
      have hqz : (q.2 != 0) = true := bne_iff_ne.2 hq0
      have hqf : (q.2 == 0) = false := by simpa using hq0
      go_quiet (fail)
      replace herrT := Lib.hid (show RErr (World.drewN (w8) nq) g q.1 q.2 from ⟨_, _, _, _, hbg.drewN nq⟩)
      replace bRT := Lib.hid (bRT.out.drewN nq)
      replace hxT := Lib.hid (Ext.drewN hxT.out nq)
      clear t4 t5 hqf hbg hqz
      generalize World.drewN (w8) nq = w9 at *
      -- at region 11, in the world w9: an error is noted
      have herrC := herrT.out
      obtain ⟨d0, d1, d2, d3, hbg⟩ := herrC
      have t4 : (w9).cell? ⟨g, 4, none⟩ = some (.int .i64 q.2) := hbg.cell 4
      have t5 : (w9).cell? ⟨g, 5, none⟩ = some (.int .i64 q.1) := hbg.cell 5
      have hqz : ((q.2 : Int) != 0) = true := bne_iff_ne.2 hq0
      have p0 := bRT.out.cell 0
      have p1 := bRT.out.cell 1
      have p2 := bRT.out.cell 2
      have p3 := bRT.out.cell 3
      have p4 := bRT.out.cell 4
      have p5 := bRT.out.cell 5
      have p6 := bRT.out.cell 6
      have pf := bRT.out.frozen
      go_wp2_with fail
      go_region
      go_wp2
      have n1 := Lib.hid (((((((bRT.out.set 0 (.int .i64 0)).set 1 (.string ⟨#[]⟩)).set 2 (.int .i64 0)).set 3 (.int .i64 0)).set 4 (.slice none 0 0)).set 5 (.int .i64 0)).set 6 (.int .i64 0))
      have o1 : Only w.heap.size (w9) ((((((((w9).setCell ⟨w.heap.size, 0, none⟩ (.int .i64 0)).setCell ⟨w.heap.size, 1, none⟩ (.string ⟨#[]⟩)).setCell ⟨w.heap.size, 2, none⟩ (.int .i64 0)).setCell ⟨w.heap.size, 3, none⟩ (.int .i64 0)).setCell ⟨w.heap.size, 4, none⟩ (.slice none 0 0)).setCell ⟨w.heap.size, 5, none⟩ (.int .i64 0)).setCell ⟨w.heap.size, 6, none⟩ (.int .i64 0)) :=
        ((((((Only.rf.set 0 _).set 1 _).set 2 _).set 3 _).set 4 _).set 5 _).set 6 _
      have hx3 := hxT.out.only o1 (Nat.le_refl _)
      generalize ((((((((w9).setCell ⟨w.heap.size, 0, none⟩ (.int .i64 0)).setCell ⟨w.heap.size, 1, none⟩ (.string ⟨#[]⟩)).setCell ⟨w.heap.size, 2, none⟩ (.int .i64 0)).setCell ⟨w.heap.size, 3, none⟩ (.int .i64 0)).setCell ⟨w.heap.size, 4, none⟩ (.slice none 0 0)).setCell ⟨w.heap.size, 5, none⟩ (.int .i64 0)).setCell ⟨w.heap.size, 6, none⟩ (.int .i64 0)) = w3 at *
      refine bodyPost_ret (rparse_res _ _ w.heap.size _ _ _ _ _ _ _ _ _ rfl rfl rfl (n1.out.ext (Ext.drawn _))) rfl ?_
      exact HERR.out _ _ _ (hx3.tr (Ext.drawn _)) hT
    | ok z =>
      obtain ⟨y1', s2⟩ := z
      obtain rfl : y1' = y1 := HYY.out _ _ ho1
      rw [ho1] at hrp
      obtain ⟨k7, hp7⟩ := hrp
      have hp7 := hp7.only (hnp hp7 bQ8.out (by decide)) (show g ≠ g + 1 by omega) (show g ≤ g + 1 by omega) ho7
      clear HRP HYY bR8 hx8 hrd8 bQ8 q5 qf5 ho7
      generalize w8.setCell ⟨g + 1, 5, none⟩ (.int .i64 y1') = w7 at *
      refine (reader.option_c hp7 [108, 105, 109, 105, 116] 1000).mono ?_
      rintro e w9 ⟨y2, rfl, hrp, hm9, hyy⟩
      have bR9 := Lib.hid (bR7.mv hm9 (by omega) (hnp hp7 bR7 (by decide)))
      have bQ9 := bQ7.mv hm9 (by omega) (hnp hp7 bQ7 (by decide))
      have hx9 : Ext w w9 := hx7.trans ((hp7.below hm9).mono (by omega))
      have hrd9 := Lib.hid (hrd7.go hm9.chg (fun b hb => by rcases hb with hb | hb; exact .inr (by omega); exact .inl (by simp [hb])) (fun y hy => .inl hy))
      have hz9 := hm9.chg.size
      have q6 := bQ9.cell 6
      have qf6 := bQ9.frozen 6
      have HRP := Lib.hid hrp
      have HYY := Lib.hid hyy
      have bQ9 := Lib.hid bQ9
      have hx9 := Lib.hid hx9
      clear hrd7 hp7 bR7 hx7 bQ7 hm9 hrp hyy
      go_wp2_with fail
      have ho10 := Only.rf.set (a := w9) (w := w9) (g := g + 1) 6 (.int .i64 y2)
      have bQ10 : Blk (w9.setCell ⟨g + 1, 6, none⟩ (.int .i64 y2)) (g + 1) 30 #[.int .i64 i5, .string n5, .int .i64 m5, .int .i64 u5, .slice A5 l5 c5, .int .i64 y1', .int .i64 y2] := bQ9.out.set 6 (.int .i64 y2)
      have bRT := Lib.hid (bR9.out.only ho10 (by omega))
      have hxT := Lib.hid (hx9.out.only ho10 (by omega))
      have hrd10 := hrd9.out.go (Rl.Chg.of_grown (E := fun b => b = g + 1) ho10 (fun y e => by injection e with e; exact e.symm)) (fun b hb => .inr (by omega)) (fun y hy => .inl hy)
      have hz10 := ho10.size
      have hrp := HRP.out
      cases ho2 : CL.optP [108, 105, 109, 105, 116] 1000 s2 with
      | error q =>
        have hT : CL.parseT all = .error (q.1, q.2) := by unfold CL.parseT CL.wPrio CL.wLimit; rw [hx, CL.bind_ok, ho1, CL.bind_ok, ho2]; rfl
        rw [ho2] at hrp
        obtain ⟨hq0, herr⟩ := hrp
        have herrT := Lib.hid (herr.only ho10 (show g ≠ g + 1 by omega))
        clear herr HRP HYY bR9 hx9 hrd9 hrd10 bQ9 bQ10 q6 qf6 ho10 ho1 ho2 hx hnp hz9
        generalize w9.setCell ⟨g + 1, 6, none⟩ (.int .i64 y2) = w8 at *
        -- at region 9, in the world w8: an error is noted
        have herrC := herrT.out
        obtain ⟨d0, d1, d2, d3, hbg⟩ := herrC
        have t4 : (w8).cell? ⟨g, 4, none⟩ = some (.int .i64 q.2) := hbg.cell 4
        have t5 : (w8).cell? ⟨g, 5, none⟩ = some (.int .i64 q.1) := hbg.cell 5
        have hqz : (q.2 != 0) = true := bne_iff_ne.2 hq0
        have hqf : (q.2 == 0) = false := by simpa using hq0
        go_quiet (fail)
        replace herrT := Lib.hid (show RErr (World.drewN (w8) nq) g q.1 q.2 from ⟨_, _, _, _, hbg.drewN nq⟩)
        replace bRT := Lib.hid (bRT.out.drewN nq)
        replace hxT := Lib.hid (Ext.drewN hxT.out nq)
        clear t4 t5 hqf hbg hqz
        generalize World.drewN (w8) nq = w9 at *
        -- at region 11, in the world w9: an error is noted
        have herrC := herrT.out
        obtain ⟨d0, d1, d2, d3, hbg⟩ := herrC
        have t4 : (w9).cell? ⟨g, 4, none⟩ = some (.int .i64 q.2) := hbg.cell 4
        have t5 : (w9).cell? ⟨g, 5, none⟩ = some (.int .i64 q.1) := hbg.cell 5
        have hqz : ((q.2 : Int) != 0) = true := bne_iff_ne.2 hq0
        have p0 := bRT.out.cell 0
        have p1 := bRT.out.cell 1
        have p2 := bRT.out.cell 2
        have p3 := bRT.out.cell 3
        have p4 := bRT.out.cell 4
        have p5 := bRT.out.cell 5
        have p6 := bRT.out.cell 6
        have pf := bRT.out.frozen
        go_wp2_with fail
        go_region
        go_wp2
        have n1 := Lib.hid (((((((bRT.out.set 0 (.int .i64 0)).set 1 (.string ⟨#[]⟩)).set 2 (.int .i64 0)).set 3 (.int .i64 0)).set 4 (.slice none 0 0)).set 5 (.int .i64 0)).set 6 (.int .i64 0))
        have o1 : Only w.heap.size (w9) ((((((((w9).setCell ⟨w.heap.size, 0, none⟩ (.int .i64 0)).setCell ⟨w.heap.size, 1, none⟩ (.string ⟨#[]⟩)).setCell ⟨w.heap.size, 2, none⟩ (.int .i64 0)).setCell ⟨w.heap.size, 3, none⟩ (.int .i64 0)).setCell ⟨w.heap.size, 4, none⟩ (.slice none 0 0)).setCell ⟨w.heap.size, 5, none⟩ (.int .i64 0)).setCell ⟨w.heap.size, 6, none⟩ (.int .i64 0)) :=
          ((((((Only.rf.set 0 _).set 1 _).set 2 _).set 3 _).set 4 _).set 5 _).set 6 _
        have hx3 := hxT.out.only o1 (Nat.le_refl _)
        generalize ((((((((w9).setCell ⟨w.heap.size, 0, none⟩ (.int .i64 0)).setCell ⟨w.heap.size, 1, none⟩ (.string ⟨#[]⟩)).setCell ⟨w.heap.size, 2, none⟩ (.int .i64 0)).setCell ⟨w.heap.size, 3, none⟩ (.int .i64 0)).setCell ⟨w.heap.size, 4, none⟩ (.slice none 0 0)).setCell ⟨w.heap.size, 5, none⟩ (.int .i64 0)).setCell ⟨w.heap.size, 6, none⟩ (.int .i64 0)) = w3 at *
        refine bodyPost_ret (rparse_res _ _ w.heap.size _ _ _ _ _ _ _ _ _ rfl rfl rfl (n1.out.ext (Ext.drawn _))) rfl ?_
        exact HERR.out _ _ _ (hx3.tr (Ext.drawn _)) hT
      | ok z =>
        obtain ⟨y2', s3⟩ := z
        obtain rfl : y2' = y2 := HYY.out _ _ ho2
        rw [ho2] at hrp
        obtain ⟨k9, hp9⟩ := hrp
        have hp10 := hp9.only (hnp hp9 bQ9.out (by decide)) (show g ≠ g + 1 by omega) (show g ≤ g + 1 by omega) ho10
        clear HRP HYY bR9 hx9 hrd9 bQ9 q6 qf6 ho10 hp9
        generalize w9.setCell ⟨g + 1, 6, none⟩ (.int .i64 y2') = w10 at *
        obtain ⟨b, o, rfl, hb, c0, -, -, c3⟩ := hp10.cells
        have e0 : w10.cell? ⟨g, 0, none⟩ = some (.slice (some ⟨b, o, none⟩) all.length c) := hp10.blk.cell 0
        have e1 : w10.cell? ⟨g, 1, none⟩ = some (.int .i64 (k9 : Int)) := hp10.blk.cell 1
        have e4 : w10.cell? ⟨g, 4, none⟩ = some (.int .i64 0) := hp10.blk.cell 4
        have hki : (k9 : Int) < (all.length : Int) := by have := hp10.hk; omega
        have HG := Lib.hid hp10.blk
        have bQ10 := Lib.hid bQ10
        have hrd10 := Lib.hid hrd10
        clear hp10
        by_cases h5 : s3.hd.kind = 5
        · have hT : CL.parseT all = .ok ⟨x, y1', y2'⟩ := by unfold CL.parseT CL.wPrio CL.wLimit; rw [hx, CL.bind_ok, ho1, CL.bind_ok, ho2, CL.bind_ok, if_pos h5]
          rw [h5] at c0
          go_quiet (fail)
          have hxq := Ext.drewN (Ext.rfl' (a := w10)) nq
          have g4 : (w10.drewN nq).cell? ⟨g, 4, none⟩ = some (.int .i64 0) := hxq.cell e4
          have bQ11 := Lib.hid (bQ10.out.ext hxq)
          obtain ⟨r0, r1, r2, r3, r4, r5, r6⟩ := bQ11.out.c7
          have bR11 := Lib.hid (bRT.out.ext hxq)
          have hx11 := Lib.hid (hxT.out.tr hxq)
          have hrd11 := Lib.hid (hrd10.out.go (Rl.Chg.of_ext (E := fun _ => False) hxq) (fun b hb => hb.elim) (fun y hy => .inl hy))
          clear e0 e1 e4 c0 c3 bQ10 bRT hxT hrd10 HG
          generalize w10.drewN nq = w11 at *
          go_wp2_with (with_reducible refine is_store 30 (.tmp 2) (.tmp 79) rfl ?_; refine wpList_store_blk rfl rfl 30 (.tmp 2) (.tmp 79) rfl w.heap.size #[.int .i64 i5, .string n5, .int .i64 m5, .int .i64 u5, .slice A5 l5 c5, .int .i64 y1', .int .i64 y2'] rfl rfl _ _ bR11.out 7 rq_isz rfl rfl (by simp [Value.oneCell']) ?_; intro w8 hB8 ho8; replace hB8 := Lib.hid hB8; replace ho8 := Lib.hid ho8)
          refine bodyPost_ret (rparse_res _ _ w.heap.size _ _ _ _ _ _ _ _ _ rfl rfl rfl hB8.out) rfl ?_
          unfold ParsePost
          rw [hP.out, hT]
          refine ⟨[.int .i64 i5, .string n5, .int .i64 m5, .int .i64 u5, .slice A5 l5 c5], rfl, ?_, hx11.out.only ho8.out (Nat.le_refl _)⟩
          exact (hrd11.out.go (Rl.Chg.of_grown (E := fun b => b = w.heap.size) ho8.out (fun y e => by injection e with e; exact e.symm)) (fun b hb => .inr (by omega)) (X' := []) (fun y hy => by simp at hy)).wide (by omega) (Nat.le_refl _) (fun k _ _ hk => by simp at hk)
        · have hT : CL.parseT all = .error (s3.hd.pos, 8) := by unfold CL.parseT CL.wPrio CL.wLimit; rw [hx, CL.bind_ok, ho1, CL.bind_ok, ho2, CL.bind_ok, if_neg h5]
          have h5' : (s3.hd.kind != 5) = true := by simpa using h5
          go_quiet (fail)
          have hxq := Ext.drewN (Ext.rfl' (a := w10)) nq
          have HG11 := HG.out.ext hxq
          have bR11 := bRT.out.ext hxq
          have hx11 := hxT.out.tr hxq
          have a0 := hxq.cell e0
          have a1 := hxq.cell e1
          have a3 := hxq.cell c3
          clear e0 e1 e4 c0 c3 bQ10 hrd10 HG bRT hxT hxq
          generalize w10.drewN nq = w11 at *
          have HF := Lib.hid (reader.fail_c w11.drew g _ _ _ _ s3.hd.pos 8 (HG11.ext (Ext.drawn _)))
          go_wp2_with fail
          go_still_tail 12, (by kernel_rfl)
          go_wp2_with (go_at_call 40; refine HF.out.mono ?_; rintro r w12 ⟨rfl, hb12, ho12⟩; have tt4 := hb12.cell 4; have tt5 := hb12.cell 5)
          have herrT := Lib.hid (show RErr w12 g s3.hd.pos 8 from ⟨_, _, _, _, hb12⟩)
          have bRT := Lib.hid ((bR11.ext (Ext.drawn w11)).only ho12 (by omega))
          have hxT := Lib.hid ((hx11.tr (Ext.drawn w11)).only ho12 (by omega))
          have h80 : (8 : Int) ≠ 0 := by decide
          clear hb12 ho12 bR11 hx11 HG11
          -- at region 11, in the world w12: an error is noted
          have herrC := herrT.out
          obtain ⟨d0, d1, d2, d3, hbg⟩ := herrC
          have t4 : (w12).cell? ⟨g, 4, none⟩ = some (.int .i64 8) := hbg.cell 4
          have t5 : (w12).cell? ⟨g, 5, none⟩ = some (.int .i64 s3.hd.pos) := hbg.cell 5
          have hqz : ((8 : Int) != 0) = true := bne_iff_ne.2 h80
          have p0 := bRT.out.cell 0
          have p1 := bRT.out.cell 1
          have p2 := bRT.out.cell 2
          have p3 := bRT.out.cell 3
          have p4 := bRT.out.cell 4
          have p5 := bRT.out.cell 5
          have p6 := bRT.out.cell 6
          have pf := bRT.out.frozen
          skip
          go_region
          go_wp2
          have n1 := Lib.hid (((((((bRT.out.set 0 (.int .i64 0)).set 1 (.string ⟨#[]⟩)).set 2 (.int .i64 0)).set 3 (.int .i64 0)).set 4 (.slice none 0 0)).set 5 (.int .i64 0)).set 6 (.int .i64 0))
          have o1 : Only w.heap.size (w12) ((((((((w12).setCell ⟨w.heap.size, 0, none⟩ (.int .i64 0)).setCell ⟨w.heap.size, 1, none⟩ (.string ⟨#[]⟩)).setCell ⟨w.heap.size, 2, none⟩ (.int .i64 0)).setCell ⟨w.heap.size, 3, none⟩ (.int .i64 0)).setCell ⟨w.heap.size, 4, none⟩ (.slice none 0 0)).setCell ⟨w.heap.size, 5, none⟩ (.int .i64 0)).setCell ⟨w.heap.size, 6, none⟩ (.int .i64 0)) :=
            ((((((Only.rf.set 0 _).set 1 _).set 2 _).set 3 _).set 4 _).set 5 _).set 6 _
          have hx3 := hxT.out.only o1 (Nat.le_refl _)
          generalize ((((((((w12).setCell ⟨w.heap.size, 0, none⟩ (.int .i64 0)).setCell ⟨w.heap.size, 1, none⟩ (.string ⟨#[]⟩)).setCell ⟨w.heap.size, 2, none⟩ (.int .i64 0)).setCell ⟨w.heap.size, 3, none⟩ (.int .i64 0)).setCell ⟨w.heap.size, 4, none⟩ (.slice none 0 0)).setCell ⟨w.heap.size, 5, none⟩ (.int .i64 0)).setCell ⟨w.heap.size, 6, none⟩ (.int .i64 0)) = w3 at *
          refine bodyPost_ret (rparse_res _ _ w.heap.size _ _ _ _ _ _ _ _ _ rfl rfl rfl (n1.out.ext (Ext.drawn _))) rfl ?_
          exact HERR.out _ _ _ (hx3.tr (Ext.drawn _)) hT
end Go.Proofs.YtlfnpkjfnafeaaaDoor
