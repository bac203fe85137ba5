
/- The reference's reader, eighth part: the walk of expr at the word any. -/
import Derived.Test.YtlfnpkjfnafeaaaDoorRr6
import Derived.Test.YtlfnpkjfnafeaaaDoorRr7
namespace Go.Proofs.YtlfnpkjfnafeaaaDoor
open Go.RowKit
set_option linter.unusedVariables false
set_option linter.unusedSimpArgs false
set_option maxRecDepth 100000
variable {w : World} {g B base : Nat} {A : Option Addr} {c : Nat} {all : List CL.Tk} {v : Value} {k : Nat} {s : CL.PS}
set_option maxHeartbeats 6400000 in
theorem reader.expr_any (d : Nat) (lv : Int) (hE : RxC d (lv + 1)) (h : RSt w g B base A c all v k s) {tn tp : Int} (ht : s.hd = ⟨1, CL.wAny, tn, tp⟩) (hl1 : 1 ≤ lv) (hl2 : lv ≤ 4) (hn : s.n + 1 ≤ 24) (h3 : ∀ t ∈ all, t.kind = 3 → t.text = []) :
    Calls Tryd.prog 38 #[.pointer (some ⟨g, 0, none⟩), .int .i64 lv] w (RxPost w g B base A c all v (CL.bindP (CL.listP (CL.exprP d) ⟨s.n + 1, s.l, s.r.tail⟩) (fun l s2 => .ok (.mk 1 CL.noAt l, s2)))) := by
  have hk5 : s.hd.kind ≠ 5 := by rw [ht]; simp
  obtain ⟨tk, htk⟩ : ∃ tk : Int, tk = 1 := ⟨_, rfl⟩
  obtain ⟨tt, htt⟩ : ∃ tt : List UInt8, tt = CL.wAny := ⟨_, rfl⟩
  rw [← htk, ← htt] at ht
  replace htk := Lib.hid htk
  replace htt := Lib.hid htt
  replace h3 := Lib.hid h3
  obtain ⟨R, hR⟩ : ∃ R : CL.PR CL.Ex, R = CL.bindP (CL.listP (CL.exprP d) ⟨s.n + 1, s.l, s.r.tail⟩) (fun l s2 => .ok (.mk 1 CL.noAt l, s2)) := ⟨_, rfl⟩
  rw [← hR]
  replace hR := Lib.hid hR
  obtain ⟨b, o, rfl, hbB, -⟩ := h.cells
  have hx0 := Ext.new w (.cells #[.int .i64 0, .string ⟨#[]⟩, .int .i64 0, .int .i64 0, .slice none 0 0] 28)
  have bR := Blk.new w 28 #[.int .i64 0, .string ⟨#[]⟩, .int .i64 0, .int .i64 0, .slice none 0 0]
  have hlt := h.blk.lt
  have hBg := h.Bg
  have hBb := h.Bb
  have hbs := h.bs
  have hlen := h.len
  have HY := fun p (hp : w.heap.size ≤ p) => h.young hp
  have hz : (w.alloc (.cells #[.int .i64 0, .string ⟨#[]⟩, .int .i64 0, .int .i64 0, .slice none 0 0] 28)).heap.size = w.heap.size + 1 := by simp [World.size_alloc]
  have HS := h.ext hx0
  have hM : Mv g v v w _ := Mv.of_ext hx0
  have k4 : (w.alloc (.cells #[.int .i64 0, .string ⟨#[]⟩, .int .i64 0, .int .i64 0, .slice none 0 0] 28)).cell? ⟨g, 4, none⟩ = some (.int .i64 0) := HS.blk.cell 4
  have hne0 : g ≠ w.heap.size := (by omega)
  clear h hx0
  go_enter Tryd.func38, Tryd.ntmps38
  go_wp2_with fail
  generalize (w.alloc (.cells #[.int .i64 0, .string ⟨#[]⟩, .int .i64 0, .int .i64 0, .slice none 0 0] 28)) = w1 at *
  obtain ⟨hb1, c0, c1, c2, c3⟩ := HS.cellsAt
  rw [ht] at c0 c1 c2 c3
  simp only at c0 c1 c2 c3
  have e0 : w1.cell? ⟨g, 0, none⟩ = some (.slice (some ⟨b, o, none⟩) all.length c) := HS.blk.cell 0
  have e1 : w1.cell? ⟨g, 1, none⟩ = some (.int .i64 (k : Int)) := HS.blk.cell 1
  have hkl := HS.hk
  have hne : g ≠ w1.heap.size := (by have := HS.blk.lt; omega)
  have hne2 : b ≠ w1.heap.size := (by have := HS.blk.lt; omega)
  have hki : (k : Int) < (all.length : Int) := by omega
  have hx1 := (Ext.new w1 (.cells #[.int .i64 tk, .string ⟨tt.toArray⟩, .int .i64 tn, .int .i64 tp] 52)).tr (Ext.drawn _)
  have bT := (Blk.new w1 52 #[.int .i64 tk, .string ⟨tt.toArray⟩, .int .i64 tn, .int .i64 tp]).ext (Ext.drawn _)
  have y0 := fun ob => (Ext.new w1 ob).cell c0
  have y1 := fun ob => (Ext.new w1 ob).cell c1
  have y2 := fun ob => (Ext.new w1 ob).cell c2
  have y3 := fun ob => (Ext.new w1 ob).cell c3
  have z0 := fun ob => (Ext.new w1 ob).cell e0
  have z1 := fun ob => (Ext.new w1 ob).cell e1
  replace HS := Lib.hid (HS.ext hx1)
  replace bR := Lib.hid (bR.ext hx1)
  replace hM := Lib.hid (hM.tr (Mv.of_ext hx1))
  replace bT := Lib.hid bT
  go_region
  clear y0 y1 y2 y3 z0 z1 c0 c1 c2 c3 e0 e1 hx1 hne hne2 hki k4
  generalize (w1.alloc (.cells #[.int .i64 tk, .string ⟨tt.toArray⟩, .int .i64 tn, .int .i64 tp] 52)).drew = w2 at *
  generalize w1.heap.size = q1 at *
  subst hz
  have t0 := bT.out.cell 0
  have t1 := bT.out.cell 1
  have t2 := bT.out.cell 2
  have t3 := bT.out.cell 3
  simp only [List.getElem?_toArray, List.getElem?_cons_succ, List.getElem?_cons_zero] at t0 t1 t2 t3
  have n1 : w.heap.size + 1 ≠ g := (by omega)
  have n2 : g ≠ w.heap.size + 1 := (by omega)
  have htk1 := htk.out
  have htt1 := htt.out
  unfold CL.wAny at htt1
  subst htk1 htt1
  clear htk htt
  obtain ⟨HD, HM⟩ := HS.out.deep hn hk5
  have hd1 : decide (4 < lv) = false := by simp; omega
  have hd2 : decide ((24 : Int) < (s.n : Int) + 1) = false := by simp; omega
  have e1 : w2.cell? ⟨g, 1, none⟩ = some (.int .i64 (k : Int)) := HS.out.blk.cell 1
  have e2 : w2.cell? ⟨g, 2, none⟩ = some (.int .i64 (s.n : Int)) := HS.out.blk.cell 2
  have f1 := HS.out.blk.frozen 1
  have f2 := HS.out.blk.frozen 2
  have gw2 : IntKind.i64.wrap ((s.n : Int) + 1) = (s.n : Int) + 1 := IntWalk.i64_in _ (by omega)
  have gw1 : IntKind.i64.wrap ((k : Int) + 1) = (k : Int) + 1 := IntWalk.i64_in _ (by omega)
  have gw3 : IntKind.i64.wrap (lv + 1) = lv + 1 := IntWalk.i64_in _ (by omega)
  have bR3 := Lib.hid ((bR.out.setNe (q := g) hne0.symm 2 (.int .i64 ((s.n : Int) + 1))).setNe (q := g) hne0.symm 1 (.int .i64 ((k : Int) + 1)))
  have bT3 := Lib.hid ((bT.out.setNe (q := g) n1 2 (.int .i64 ((s.n : Int) + 1))).setNe (q := g) n1 1 (.int .i64 ((k : Int) + 1)))
  have hM3 := Lib.hid (hM.out.tr HM)
  have hw3 := hM3.out.chg.size
  have hn1 : (⟨s.n + 1, s.l, s.r.tail⟩ : CL.PS).n ≤ 24 := hn
  generalize (⟨s.n + 1, s.l, s.r.tail⟩ : CL.PS) = s1 at *
  have HX : RSx _ g B base (some ⟨b, o, none⟩) c all v (.ok s1) := ⟨k + 1, HD⟩
  replace HX := Lib.hid HX
  clear HD HM bR hM ht HS bT
  have hn4 := Lib.hid (fun (sq : CL.PS) (e : (Except.ok s1 : PX) = .ok sq) => (by injection e with e; subst e; exact hn1 : sq.n ≤ 24))
  have hn5 := Lib.hid (fun (sq : CL.PS) (e : nx (.ok s1) 4 [40] = .ok sq) => (by obtain ⟨s0, e1, e2⟩ := nx_n e; rw [e2]; exact hn4.out s0 e1 : sq.n ≤ 24))
  have hrs : CL.rsv [97, 110, 121] = true := by decide
  go_wp2_with (first
    | (go_at_call 70; refine (clusterlocksref05.Reserved_c [97, 110, 121] _).mono ?_; rintro e w3 ⟨rfl, rfl⟩)
    | (go_at_call 72; refine (reader.want_x HX.out 4 [40] (by decide)).mono ?_; rintro e w4 ⟨rfl, hx4, hm4⟩; have bR4 := Lib.hid (bR3.out.mv hm4 hne0.symm (HY _ (Nat.le_refl _))); have bT4 := Lib.hid (bT3.out.mv hm4 n1 (HY _ (by omega))); replace hx4 := Lib.hid hx4; replace hm4 := Lib.hid hm4)
    | (go_at_call 38; refine (reader.expr_x hE h3.out hx4.out hn5.out).mono ?_; intro e w5 hp; obtain ⟨i5, n5, m5, u5, A5, l5, c5, rfl, hcg⟩ := hp.shape; have bR5 := Lib.hid (Rl.Chg.blk hcg bR4.out (fun e => e.elim hne0.symm (HY _ (Nat.le_refl _)))); have bT5 := Lib.hid (Rl.Chg.blk hcg bT4.out (fun e => e.elim n1 (HY _ (by omega)))); replace hcg := Lib.hid hcg; replace hp := Lib.hid hp))
  have hw4 := hm4.out.chg.size
  have hM4 := Lib.hid (hM3.out.tr hm4.out)
  have hw5 := hcg.out.size
  have hxx := (Ext.new w5 (.cells #[.int .i64 i5, .string n5, .int .i64 m5, .int .i64 u5, .slice A5 l5 c5] 28)).tr (Ext.new _ (.cells #[.int .i64 0, .string ⟨#[]⟩, .int .i64 0, .int .i64 0, .slice (some ⟨w5.heap.size, 0, none⟩) 1 1] 28))
  have HG := Lib.hid (GRel.first hp.out hn4.out)
  have bR6 := Lib.hid (bR5.out.ext hxx)
  have bT6 := Lib.hid (bT5.out.ext hxx)
  have hpw4 : w.heap.size < w4.heap.size := by have := bR4.out.lt; omega
  have hqw4 : w.heap.size + 1 < w4.heap.size := by have := bT4.out.lt; omega
  have hpe : w4.heap.size ≤ w5.heap.size := hw5
  generalize ((w5.alloc (.cells #[.int .i64 i5, .string n5, .int .i64 m5, .int .i64 u5, .slice A5 l5 c5] 28)).alloc (.cells #[.int .i64 0, .string ⟨#[]⟩, .int .i64 0, .int .i64 0, .slice (some ⟨w5.heap.size, 0, none⟩) 1 1] 28)) = w6 at *
  generalize hpe1 : w5.heap.size + 1 = pe at *
  replace hpe : w4.heap.size < pe := by omega
  clear hxx hpe1 hw5 hcg hp bR5 bT5 bR4 bT4 bR3 bT3 HX hx4 hm4 hM3 e1 e2 f1 f2 t0 t1 t2 t3 hw3 hw4
  obtain ⟨L, hL0⟩ : ∃ L : CL.PR (List CL.Ex), L = bnd (.ok s1) (CL.listP (CL.exprP d)) := ⟨_, rfl⟩
  have hRL : R = CL.bindP L (fun l s2 => .ok (.mk 1 CL.noAt l, s2)) := by rw [hR.out, hL0]; rfl
  replace hRL := Lib.hid hRL
  have HG := HG.out
  rw [← hL0] at HG
  replace HG := Lib.hid HG
  clear hL0 hR
  go_loopw [] (fun wr => GRel w4 g B base (some ⟨b, o, none⟩) c all v L (CL.exprP d) pe wr ∧ Blk wr w.heap.size 28 #[.int .i64 0, .string ⟨#[]⟩, .int .i64 0, .int .i64 0, .slice none 0 0] ∧ Blk wr (w.heap.size + 1) 52 #[.int .i64 1, .string ⟨[97, 110, 121].toArray⟩, .int .i64 tn, .int .i64 tp]) (fun wr => 100 - kidsN wr pe)
  case atStart => exact ⟨HG.out, bR6.out, bT6.out⟩
  case round =>
    obtain ⟨⟨n, A', c', hn25, bE, hst⟩, bRr, bTr⟩ := hrel
    have hkn := Lib.hid (kidsN_blk bE)
    clear HG bR6 bT6
    rcases hst with ⟨acc, vs, v', k', m, s', rfl, hL⟩ | ⟨q, hLq, hq0, herr, hcgq⟩
    · have HI := reader.is_c hL.p 4 [44]
      have k4 : wr.cell? ⟨g, 4, none⟩ = some (.int .i64 0) := hL.p.blk.cell 4
      have hvR : v'.ownBlock ≠ some w.heap.size := own_ne hL.p.own bRr (by decide)
      have hvT : v'.ownBlock ≠ some (w.heap.size + 1) := own_ne hL.p.own bTr (by decide)
      have hvE : v'.ownBlock ≠ some pe := own_ne hL.p.own bE (by decide)
      have hlk := hL.p.hk
      have hll := hL.p.len
      have hacc := hL.l
      have hsn := hL.n
      replace hL := Lib.hid hL
      replace bE := Lib.hid bE
      replace bRr := Lib.hid bRr
      replace bTr := Lib.hid bTr
      cases hs : CL.sees 4 [44] s' with
      | true =>
        rw [hs] at HI
        have hk5' : s'.hd.kind ≠ 5 := by rw [rsees_kind hs]; decide
        replace hs := Lib.hid hs
        have gk : IntKind.i64.wrap ((k' : Int) + 1) = (k' : Int) + 1 := IntWalk.i64_in _ (by omega)
        have hpe0 : w.heap.size ≠ pe := by omega
        have hpe1 : g ≠ pe := by omega
        have hpe2 : w.heap.size + 1 ≠ pe := by omega
        go_wp2_with (go_at_call 73; refine HI.mono ?_; rintro r w6' ⟨rfl, hx6⟩; clear HI; have hL6 := hL.out.p.ext hx6; have q1 : w6'.cell? ⟨g, 1, none⟩ = some (.int .i64 (k' : Int)) := hL6.blk.cell 1; have qf := hL6.blk.frozen 1; replace hL6 := Lib.hid hL6)
        obtain ⟨hN, hMN⟩ := hL6.out.next_of hk5'
        have hm7 := (Mv.of_ext (g := g) (v := v') hx6).tr hMN
        have hlt4 : ∀ y, (Value.slice A' acc.length c').ownBlock = some y → w4.heap.size ≤ y := fun y hy => (hL.out.own.lt y hy).1
        have hnk : ∀ y, (Value.slice A' acc.length c').ownBlock = some y → y ≠ g ∧ v'.ownBlock ≠ some y := fun y hy => ⟨by have := hlt4 y hy; omega, own_own hL.out.p.own hL.out.own (by decide) hy⟩
        have hO7 := Lib.hid (own_mv hL.out.own hm7 hnk)
        have bE7 := (bE.out.ext hx6).setNe (q := g) hpe1.symm 1 (.int .i64 ((k' : Int) + 1))
        have bR7 := Lib.hid ((bRr.out.ext hx6).setNe (q := g) hne0.symm 1 (.int .i64 ((k' : Int) + 1)))
        have bT7 := Lib.hid ((bTr.out.ext hx6).setNe (q := g) n1 1 (.int .i64 ((k' : Int) + 1)))
        have hwr := hm7.chg.size
        have hw4r := hL.out.mv.chg.size
        have nE : some pe ≠ (Value.slice A' acc.length c').ownBlock := fun e => hL.out.ne e.symm
        have nR : some w.heap.size ≠ (Value.slice A' acc.length c').ownBlock := fun e => by have := hlt4 _ e.symm; omega
        have nT : some (w.heap.size + 1) ≠ (Value.slice A' acc.length c').ownBlock := fun e => by have := hlt4 _ e.symm; omega
        replace nE := Lib.hid nE
        replace nR := Lib.hid nR
        replace nT := Lib.hid nT
        replace hnk := Lib.hid hnk
        replace hm7 := Lib.hid hm7
        replace hN := Lib.hid hN
        clear hlt4 hMN hL6 q1 qf hx6 bE bRr bTr k4
        generalize (w6'.setCell ⟨g, 1, none⟩ (.int .i64 ((k' : Int) + 1))) = w7 at *
        have e4 : w7.cell? ⟨pe, 4, none⟩ = some (.slice A' acc.length c') := bE7.cell 4
        replace bE7 := Lib.hid bE7
        have HEE := Lib.hid (fun w' (hx : Ext w7 w') => hE _ _ _ _ _ _ _ _ _ _ (hN.out.ext hx) hsn h3.out)
        go_region_law
          (first
            | (go_simp; go_at_call 38; (with_reducible refine (HEE.out _ (Ext.drawn w7)).mono ?_); intro e w9 hp; obtain ⟨i5, n5, m5, u5, A5, l5, c5, rfl, hcg9⟩ := hp.shape; have HO9 := Lib.hid (Chg.own hcg9 (own_ext hO7.out (Ext.drawn w7)) hnk.out); have bE9 := Lib.hid (Rl.Chg.blk hcg9 (bE7.out.ext (Ext.drawn w7)) (fun e => e.elim hpe1.symm hvE)); have bR9 := Lib.hid (Rl.Chg.blk hcg9 (bR7.out.ext (Ext.drawn w7)) (fun e => e.elim hne0.symm hvR)); have bT9 := Lib.hid (Rl.Chg.blk hcg9 (bT7.out.ext (Ext.drawn w7)) (fun e => e.elim n1 hvT)); have e49 : w9.cell? ⟨pe, 4, none⟩ = some (.slice A' acc.length c') := bE9.out.cell 4; have hz9 : w7.heap.size ≤ w9.heap.size := hcg9.size; have npe : pe < w9.heap.size := bE9.out.lt; have e49' : (w9.alloc (.cells #[.int .i64 i5, .string n5, .int .i64 m5, .int .i64 u5, .slice A5 l5 c5] 28)).cell? ⟨pe, 4, none⟩ = some (.slice A' acc.length c') := (bE9.out.alloc _).cell 4; replace hp := Lib.hid hp; clear hcg9)
            | (refine step_append_row _ (by rfl) (.tmp 124) (.tmp 129) _ (by rfl) w4.heap.size 28 5 64 _ Tryd.underlying26 ex_info rfl (by omega) (.slice A' acc.length c') acc.length vs.flatten (by rfl) (HO9.out.alloc _) _ _ _ [.int .i64 i5, .string n5, .int .i64 m5, .int .i64 u5, .slice A5 l5 c5] (by rfl) (by rfl) (Sits.new _ _ _) (by simp [Value.oneCell']) (by simp only [maxLen]; omega) (by omega) (by simp; omega) ?_; intro v3 w3 hown3 hb3 hg3 hrow3; obtain ⟨A6, c6, rfl, hc6, _⟩ := own_form hown3; have e43 : w3.cell? ⟨pe, 4, none⟩ = some (.slice A' acc.length c') := (hg3.blk (bE9.out.alloc _) nE.out).cell 4; have f43 : w3.frozen? ⟨pe, 4, none⟩ = false := (hg3.blk (bE9.out.alloc _) nE.out).frozen 4))
        all_goals
          have hb10 := hg3.blk (bE9.out.alloc _) nE.out
          have hb11 : Blk (w3.setCell ⟨pe, 4, none⟩ (.slice A6 (acc.length + 1) c6)) pe 28 #[.int .i64 0, .string ⟨#[]⟩, .int .i64 0, .int .i64 0, .slice A6 (acc.length + 1) c6] := by simpa using hb10.set 4 (.slice A6 (acc.length + 1) c6)
          have bR11 := (hg3.blk (bR9.out.alloc _) nR.out).setNe (q := pe) hpe0 4 (.slice A6 (acc.length + 1) c6)
          have bT11 := (hg3.blk (bT9.out.alloc _) nT.out).setNe (q := pe) hpe2 4 (.slice A6 (acc.length + 1) c6)
          have HG11 := GRel.step hL.out hs.out (hm7.out.tr (Mv.of_ext (Ext.drawn w7))) hp.out (by omega) (by omega) (Ext.new w9 _) HO9.out hown3 hg3 hrow3 hb11 bE9.out (Only.rf.set 4 _)
          have HK := kidsN_blk hb11
          replace HG11 := Lib.hid HG11
          replace HK := Lib.hid HK
          replace bR11 := Lib.hid bR11
          replace bT11 := Lib.hid bT11
          clear hb10 hb11 hown3 hb3 hg3 hrow3 e43 f43 e49 e49' e4
          go_wp2_with fail
          go_roundw
          case rel => exact ⟨HG11.out, bR11.out, bT11.out⟩
          case measure => rw [HK.out, hkn.out]; omega
      | false =>
        rw [hs] at HI
        have HW := fun w' (hx : Ext wr w') => reader.want_c (hL.out.p.ext hx) 4 [41] (by decide)
        have hfin := Lib.hid (hL.out.fin hs)
        cases hx4 : CL.expectP 4 [41] s' with
        | error q =>
          have hRq : R = .error q := by rw [hRL.out, hfin.out, hx4]; rfl
          replace hRq := Lib.hid hRq
          have HWe := Lib.hid (fun w' (hx : Ext wr w') => (HW w' hx).mono fun e w7 (h : _ ∧ _ ∧ _) => (⟨h.1, by have h2 := h.2.1; unfold RdPost at h2; rw [hx4] at h2; exact h2, h.2.2⟩ : e = .returned (.tuple #[]) ∧ (q.2 ≠ 0 ∧ RErr w7 g q.1 q.2) ∧ Mv g v' v' w' w7))
          clear HW hfin hx4 hs
          go_wp2_with (first
            | (go_at_call 73; refine HI.mono ?_; rintro r w6' ⟨rfl, hx6⟩; clear HI)
            | (go_at_call 72; refine (HWe.out _ hx6).mono ?_; rintro e w7 ⟨rfl, ⟨hq0, herr⟩, hm7⟩; have k7 : w7.cell? ⟨g, 4, none⟩ = some (.int .i64 q.2) := (by obtain ⟨c0, c1, c2, c3, hb⟩ := herr; exact hb.cell 4); have hqz : (q.2 == 0) = false := (by simpa using hq0); have bR7 := Lib.hid ((bRr.out.ext hx6).mv hm7 hne0.symm hvR); replace herr := Lib.hid herr; replace hm7 := Lib.hid ((Mv.of_ext (g := g) (v := v') hx6).tr hm7); clear hx6)
            | (with_reducible refine is_store 28 (.tmp 4) (.tmp 139) rfl ?_; refine wpList_store_blk rfl rfl 28 (.tmp 4) (.tmp 139) rfl w.heap.size #[.int .i64 0, .string ⟨#[]⟩, .int .i64 0, .int .i64 0, .slice none 0 0] (by kernel_rfl) (by kernel_rfl) _ _ bR7.out 5 ex_isz rfl rfl (by simp [Value.oneCell']) ?_; intro w8 hB8 ho8; have r0 := hB8.cell 0; have r1 := hB8.cell 1; have r2 := hB8.cell 2; have r3 := hB8.cell 3; have r4 := hB8.cell 4; clear hB8; refine wpList_hide 4 ?_; intro a8 ha8 hd8; replace ha8 : a8.tmps[4]? = some (.pointer (some ⟨w.heap.size, 0, none⟩)) := ha8.trans (by kernel_rfl)))
          refine bodyPost_ret (by simp [results, Tryd.results38, go_sem, ha8, r0, r1, r2, r3, r4]; try rfl) (hd8.trans rfl) ?_
          obtain ⟨p1, m1⟩ := q
          have hM7 := (hM4.out.tr hL.out.mv).tr hm7.out
          exact RxPost.err hRq.out ShEx.zero hq0 (herr.out.only ho8 hne0) (Chg.tr hM7.chg (Rl.Chg.of_grown (E := fun b => b = w.heap.size) ho8 (fun x e => by injection e with e; exact e.symm)) (fun i hi => .inr (by omega)))
        | ok x4 =>
          have hRo : R = (fun l s2 => .ok (.mk 1 CL.noAt l, s2)) acc x4.2 := by rw [hRL.out, hfin.out, hx4]; rfl
          replace hRo := Lib.hid hRo
          have HWo := Lib.hid (fun w' (hx : Ext wr w') => (HW w' hx).mono fun e w7 (h : _ ∧ _ ∧ _) => (⟨h.1, by have h2 := h.2.1; unfold RdPost at h2; rw [hx4] at h2; exact h2, h.2.2⟩ : e = .returned (.tuple #[]) ∧ (∃ k7, RSt w7 g B base (some ⟨b, o, none⟩) c all v' k7 x4.2) ∧ Mv g v' v' w' w7))
          clear HW hfin hx4 hs
          have hpe0 : w.heap.size ≠ pe := by omega
          have hpe1 : g ≠ pe := by omega
          have hpe2 : w.heap.size + 1 ≠ pe := by omega
          go_wp2_with (first
            | (go_at_call 73; refine HI.mono ?_; rintro r w6' ⟨rfl, hx6⟩; clear HI)
            | (go_at_call 72; refine (HWo.out _ hx6).mono ?_; rintro e w7 ⟨rfl, ⟨k7, hp7⟩, hm7⟩; have c7 : w7.cell? ⟨g, 4, none⟩ = some (.int .i64 0) := hp7.blk.cell 4; have bR7 := Lib.hid ((bRr.out.ext hx6).mv hm7 hne0.symm hvR); have bT7 := Lib.hid ((bTr.out.ext hx6).mv hm7 n1 hvT); have bE7 := Lib.hid ((bE.out.ext hx6).mv hm7 hpe1.symm hvE); have t1 : w7.cell? ⟨w.heap.size + 1, 1, none⟩ = some (.string ⟨[97, 110, 121].toArray⟩) := bT7.out.cell 1; have t2 : w7.cell? ⟨w.heap.size + 1, 2, none⟩ = some (.int .i64 tn) := bT7.out.cell 2; have t3 : w7.cell? ⟨w.heap.size + 1, 3, none⟩ = some (.int .i64 tp) := bT7.out.cell 3; have p0 : w7.cell? ⟨pe, 0, none⟩ = some (.int .i64 0) := bE7.out.cell 0; have p1 : w7.cell? ⟨pe, 1, none⟩ = some (.string ⟨#[]⟩) := bE7.out.cell 1; have p2 : w7.cell? ⟨pe, 2, none⟩ = some (.int .i64 0) := bE7.out.cell 2; have p3 : w7.cell? ⟨pe, 3, none⟩ = some (.int .i64 0) := bE7.out.cell 3; have p4 : w7.cell? ⟨pe, 4, none⟩ = some (.slice A' acc.length c') := bE7.out.cell 4; have fz := bE7.out.frozen 0; replace hp7 := Lib.hid hp7; replace hm7 := Lib.hid ((Mv.of_ext (g := g) (v := v') hx6).tr hm7); clear hx6)
            | (with_reducible refine is_store 28 (.tmp 4) (.tmp 169) rfl ?_; have bR8 := Lib.hid (bR7.out.setNe (q := pe) hpe0 0 (.int .i64 1)); refine wpList_store_blk rfl rfl 28 (.tmp 4) (.tmp 169) rfl w.heap.size #[.int .i64 1, .string ⟨#[]⟩, .int .i64 0, .int .i64 0, .slice A' acc.length c'] (by kernel_rfl) (by kernel_rfl) _ _ bR8.out 5 ex_isz rfl rfl (by simp [Value.oneCell']) ?_; intro w8 hB8 ho8; have r0 := hB8.cell 0; have r1 := hB8.cell 1; have r2 := hB8.cell 2; have r3 := hB8.cell 3; have r4 := hB8.cell 4; clear hB8; refine wpList_hide 4 ?_; intro a8 ha8 hd8; replace ha8 : a8.tmps[4]? = some (.pointer (some ⟨w.heap.size, 0, none⟩)) := ha8.trans (by kernel_rfl)))
          refine bodyPost_ret (by simp [results, Tryd.results38, go_sem, ha8, r0, r1, r2, r3, r4]; try rfl) (hd8.trans rfl) ?_
          have hcl := hL.out.close hp7.out hm7.out (by omega)
          have hS := Only.rf.set (w := w7) (g := pe) 0 (.int .i64 1)
          have hp8 := (hp7.out.only (own_ne hp7.out.own bE7.out (by decide)) hpe1 (by omega) hS).only hvR hne0 (by omega) ho8
          have hM8 := (((hM4.out.tr (hL.out.mv.tr hm7.out))).only hS (by omega)).only ho8 (Nat.le_refl _)
          have hcg8 : Rl.Chg (fun b => b = pe ∨ b < w4.heap.size) w7 w8 := Chg.tr (Rl.Chg.of_grown hS (fun x e => by injection e with e; exact .inl e.symm)) (Rl.Chg.of_grown (E := fun b => b = w.heap.size) ho8 (fun x e => by injection e with e; exact e.symm)) (fun i hi => .inl (.inr (by omega)))
          exact hcl.group hM4.out hcg8 hp8 hM8 1 hRo.out
    · have k4 : wr.cell? ⟨g, 4, none⟩ = some (.int .i64 q.2) := by obtain ⟨c0, c1, c2, c3, hb⟩ := herr; exact hb.cell 4
      have hqz : (q.2 == 0) = false := by simpa using hq0
      have hRq : R = .error q := by rw [hRL.out, hLq]; rfl
      replace hRq := Lib.hid hRq
      replace bRr := Lib.hid bRr
      replace herr := Lib.hid herr
      clear hLq bE bTr
      go_wp2_with (first
        | (go_at_call 72; refine (reader.want_err wr g q.1 q.2 4 _ hq0 herr.out).mono ?_; rintro e w7 ⟨rfl, rfl⟩)
        | (with_reducible refine is_store 28 (.tmp 4) (.tmp 139) rfl ?_; refine wpList_store_blk rfl rfl 28 (.tmp 4) (.tmp 139) rfl w.heap.size #[.int .i64 0, .string ⟨#[]⟩, .int .i64 0, .int .i64 0, .slice none 0 0] (by kernel_rfl) (by kernel_rfl) _ _ bRr.out 5 ex_isz rfl rfl (by simp [Value.oneCell']) ?_; intro w8 hB8 ho8; have r0 := hB8.cell 0; have r1 := hB8.cell 1; have r2 := hB8.cell 2; have r3 := hB8.cell 3; have r4 := hB8.cell 4; clear hB8; refine wpList_hide 4 ?_; intro a8 ha8 hd8; replace ha8 : a8.tmps[4]? = some (.pointer (some ⟨w.heap.size, 0, none⟩)) := ha8.trans (by kernel_rfl)))
      refine bodyPost_ret (by simp [results, Tryd.results38, go_sem, ha8, r0, r1, r2, r3, r4]; try rfl) (hd8.trans rfl) ?_
      obtain ⟨p1, m1⟩ := q
      exact RxPost.err hRq.out ShEx.zero hq0 (herr.out.only ho8 hne0) (Chg.tr (Chg.tr hM4.out.chg hcgq (fun i hi => .inl hi)) (Rl.Chg.of_grown (E := fun b => b = w.heap.size) ho8 (fun x e => by injection e with e; exact e.symm)) (fun i hi => .inr (by omega)))
end Go.Proofs.YtlfnpkjfnafeaaaDoor
