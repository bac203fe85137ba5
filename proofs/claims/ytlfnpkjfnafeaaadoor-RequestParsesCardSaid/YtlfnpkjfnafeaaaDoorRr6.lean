
/- The reference's reader, sixth part: the walk of expr where no group begins. -/
import Derived.Test.YtlfnpkjfnafeaaaDoorRr5
import Derived.Test.YtlfnpkjfnafeaaaDoorRr3b
namespace Go.Proofs.YtlfnpkjfnafeaaaDoor
open Go.RowKit
set_option linter.unusedVariables false
set_option linter.unusedSimpArgs false
set_option maxRecDepth 100000
variable {w : World} {g B base : Nat} {A : Option Addr} {c : Nat} {all : List CL.Tk} {v : Value} {k : Nat} {s : CL.PS}
/-- an error of expr, with the error's code -/
def ErPost (w : World) (g : Nat) (v : Value) (p m : Int) (e : Ending) (w' : World) : Prop := ShEx e ∧ RErr w' g p m ∧ Rl.Chg (fun b => b = g ∨ v.ownBlock = some b) w w'
set_option maxHeartbeats 3200000 in
theorem reader.expr_bad (h : RSt w g B base A c all v k s) (lv : Int) {tk tn tp : Int} {tt : List UInt8} (ht : s.hd = ⟨tk, tt, tn, tp⟩) (hb : CL.beginsT ⟨tk, tt, tn, tp⟩ = false) :
    Calls Tryd.prog 38 #[.pointer (some ⟨g, 0, none⟩), .int .i64 lv] w (ErPost w g v tp 8) := by
  obtain ⟨b, o, rfl, hbB, -⟩ := h.cells
  have hx0 := Ext.new w (.cells #[.int .i64 0, .string ⟨#[]⟩, .int .i64 0, .int .i64 0, .slice none 0 0] 28)
  have bR := Blk.new w 28 #[.int .i64 0, .string ⟨#[]⟩, .int .i64 0, .int .i64 0, .slice none 0 0]
  have hlt := h.blk.lt
  have hBg := h.Bg
  have hBb := h.Bb
  have hbs := h.bs
  have hlen := h.len
  have HY := fun p (hp : w.heap.size ≤ p) => h.young hp
  have hz : (w.alloc (.cells #[.int .i64 0, .string ⟨#[]⟩, .int .i64 0, .int .i64 0, .slice none 0 0] 28)).heap.size = w.heap.size + 1 := by simp [World.size_alloc]
  have HS := h.ext hx0
  have hM : Mv g v v w _ := Mv.of_ext hx0
  have k4 : (w.alloc (.cells #[.int .i64 0, .string ⟨#[]⟩, .int .i64 0, .int .i64 0, .slice none 0 0] 28)).cell? ⟨g, 4, none⟩ = some (.int .i64 0) := HS.blk.cell 4
  have hne0 : g ≠ w.heap.size := (by omega)
  clear h hx0
  go_enter Tryd.func38, Tryd.ntmps38
  go_wp2_with fail
  generalize (w.alloc (.cells #[.int .i64 0, .string ⟨#[]⟩, .int .i64 0, .int .i64 0, .slice none 0 0] 28)) = w1 at *
  obtain ⟨hb1, c0, c1, c2, c3⟩ := HS.cellsAt
  rw [ht] at c0 c1 c2 c3
  simp only at c0 c1 c2 c3
  have e0 : w1.cell? ⟨g, 0, none⟩ = some (.slice (some ⟨b, o, none⟩) all.length c) := HS.blk.cell 0
  have e1 : w1.cell? ⟨g, 1, none⟩ = some (.int .i64 (k : Int)) := HS.blk.cell 1
  have hkl := HS.hk
  have hne : g ≠ w1.heap.size := (by have := HS.blk.lt; omega)
  have hne2 : b ≠ w1.heap.size := (by have := HS.blk.lt; omega)
  have hki : (k : Int) < (all.length : Int) := by omega
  have hx1 := (Ext.new w1 (.cells #[.int .i64 tk, .string ⟨tt.toArray⟩, .int .i64 tn, .int .i64 tp] 52)).tr (Ext.drawn _)
  have bT := (Blk.new w1 52 #[.int .i64 tk, .string ⟨tt.toArray⟩, .int .i64 tn, .int .i64 tp]).ext (Ext.drawn _)
  have y0 := fun ob => (Ext.new w1 ob).cell c0
  have y1 := fun ob => (Ext.new w1 ob).cell c1
  have y2 := fun ob => (Ext.new w1 ob).cell c2
  have y3 := fun ob => (Ext.new w1 ob).cell c3
  have z0 := fun ob => (Ext.new w1 ob).cell e0
  have z1 := fun ob => (Ext.new w1 ob).cell e1
  replace HS := Lib.hid (HS.ext hx1)
  replace bR := Lib.hid (bR.ext hx1)
  replace hM := Lib.hid (hM.tr (Mv.of_ext hx1))
  replace bT := Lib.hid bT
  go_region
  clear y0 y1 y2 y3 z0 z1 c0 c1 c2 c3 e0 e1 hx1 hne hne2 hki k4
  generalize (w1.alloc (.cells #[.int .i64 tk, .string ⟨tt.toArray⟩, .int .i64 tn, .int .i64 tp] 52)).drew = w2 at *
  generalize w1.heap.size = q1 at *
  subst hz
  have t0 := bT.out.cell 0
  have t1 := bT.out.cell 1
  have t2 := bT.out.cell 2
  have t3 := bT.out.cell 3
  simp only [List.getElem?_toArray, List.getElem?_cons_succ, List.getElem?_cons_zero] at t0 t1 t2 t3
  have n1 : w.heap.size + 1 ≠ g := (by omega)
  have n2 : g ≠ w.heap.size + 1 := (by omega)
  have HF := Lib.hid (reader.fail_c w2 g _ _ _ _ tp 8 HS.out.blk)
  replace hb := of_decide_eq_false hb
  have hb3 : ¬ tk = 3 := fun e => hb (.inl e)
  have k3 : (tk == 3) = false := by simpa using hb3
  by_cases h1 : tk = 1
  · have hrs : CL.rsv tt = true := by
      cases hr : CL.rsv tt with
      | true => rfl
      | false => exact absurd (.inr ⟨h1, .inr (.inr hr)⟩) hb
    have hq1 : (tt == [97, 108, 108]) = false := beq_eq_false_iff_ne.2 fun e => hb (.inr ⟨h1, .inl e⟩)
    have hq2 : (tt == [97, 110, 121]) = false := beq_eq_false_iff_ne.2 fun e => hb (.inr ⟨h1, .inr (.inl e)⟩)
    clear hb3 hb
    subst h1
    as_aux_lemma =>
      go_wp2_with (first
        | (go_at_call 70; refine (clusterlocksref05.Reserved_c tt _).mono ?_; rintro e w3 ⟨rfl, rfl⟩)
        | (go_at_call 40; refine HF.out.mono ?_; rintro r w6 ⟨rfl, hb6, ho6⟩; have bR6 := Lib.hid (bR.out.only ho6 hne0.symm))
        | (with_reducible refine is_store 28 (.tmp 4) (.tmp 62) rfl ?_; refine wpList_store_blk rfl rfl 28 (.tmp 4) (.tmp 62) rfl w.heap.size #[.int .i64 0, .string ⟨#[]⟩, .int .i64 0, .int .i64 0, .slice none 0 0] (by kernel_rfl) (by kernel_rfl) _ _ bR6.out 5 ex_isz rfl rfl (by simp [Value.oneCell']) ?_; intro w8 hB8 ho8; have r0 := hB8.cell 0; have r1 := hB8.cell 1; have r2 := hB8.cell 2; have r3 := hB8.cell 3; have r4 := hB8.cell 4; clear hB8; refine wpList_hide 4 ?_; intro a8 ha8 hd8; replace ha8 : a8.tmps[4]? = some (.pointer (some ⟨w.heap.size, 0, none⟩)) := ha8.trans (by kernel_rfl)))
      refine bodyPost_ret (by simp [results, Tryd.results38, go_sem, ha8, r0, r1, r2, r3, r4]; try rfl) (hd8.trans rfl) ?_
      exact ⟨ShEx.zero, ⟨_, _, _, _, hb6.only ho8 hne0⟩, ((hM.out.tr (Mv.set ho6)).only ho8 (Nat.le_refl _)).chg⟩
  · have k1 : (tk == 1) = false := by simpa using h1
    clear h1 hb3 hb
    as_aux_lemma =>
      go_wp2_with (first
        | (go_at_call 40; refine HF.out.mono ?_; rintro r w6 ⟨rfl, hb6, ho6⟩; have bR6 := Lib.hid (bR.out.only ho6 hne0.symm))
        | (with_reducible refine is_store 28 (.tmp 4) (.tmp 62) rfl ?_; refine wpList_store_blk rfl rfl 28 (.tmp 4) (.tmp 62) rfl w.heap.size #[.int .i64 0, .string ⟨#[]⟩, .int .i64 0, .int .i64 0, .slice none 0 0] (by kernel_rfl) (by kernel_rfl) _ _ bR6.out 5 ex_isz rfl rfl (by simp [Value.oneCell']) ?_; intro w8 hB8 ho8; have r0 := hB8.cell 0; have r1 := hB8.cell 1; have r2 := hB8.cell 2; have r3 := hB8.cell 3; have r4 := hB8.cell 4; clear hB8; refine wpList_hide 4 ?_; intro a8 ha8 hd8; replace ha8 : a8.tmps[4]? = some (.pointer (some ⟨w.heap.size, 0, none⟩)) := ha8.trans (by kernel_rfl)))
      refine bodyPost_ret (by simp [results, Tryd.results38, go_sem, ha8, r0, r1, r2, r3, r4]; try rfl) (hd8.trans rfl) ?_
      exact ⟨ShEx.zero, ⟨_, _, _, _, hb6.only ho8 hne0⟩, ((hM.out.tr (Mv.set ho6)).only ho8 (Nat.le_refl _)).chg⟩
/-- how an expression begins -/
theorem begins_how {tk tn tp : Int} {tt : List UInt8} (hb : CL.beginsT ⟨tk, tt, tn, tp⟩ = true) : tk = 3 ∨ (tk = 1 ∧ tt = [97, 108, 108]) ∨ (tk = 1 ∧ tt = [97, 110, 121]) ∨ (tk = 1 ∧ CL.rsv tt = false) := by
  have hb := of_decide_eq_true hb
  rcases hb with h | ⟨h1, h | h | h⟩
  · exact .inl h
  · exact .inr (.inl ⟨h1, h⟩)
  · exact .inr (.inr (.inl ⟨h1, h⟩))
  · exact .inr (.inr (.inr ⟨h1, h⟩))
theorem rsv_not {tt : List UInt8} (hr : CL.rsv tt = false) : (tt == [97, 108, 108]) = false ∧ (tt == [97, 110, 121]) = false := by
  simp only [CL.rsv, decide_eq_false_iff_not, not_or] at hr
  exact ⟨by simpa using hr.1, by simpa using hr.2.1⟩
set_option maxHeartbeats 6400000 in
theorem reader.expr_deep (h : RSt w g B base A c all v k s) (lv : Int) {tk tn tp : Int} {tt : List UInt8} (ht : s.hd = ⟨tk, tt, tn, tp⟩) (hb : CL.beginsT ⟨tk, tt, tn, tp⟩ = true) (hn : s.n ≤ 24) (hl : 4 < lv ∨ 24 < s.n + 1) :
    Calls Tryd.prog 38 #[.pointer (some ⟨g, 0, none⟩), .int .i64 lv] w (ErPost w g v tp 4) := by
  obtain ⟨b, o, rfl, hbB, -⟩ := h.cells
  have hx0 := Ext.new w (.cells #[.int .i64 0, .string ⟨#[]⟩, .int .i64 0, .int .i64 0, .slice none 0 0] 28)
  have bR := Blk.new w 28 #[.int .i64 0, .string ⟨#[]⟩, .int .i64 0, .int .i64 0, .slice none 0 0]
  have hlt := h.blk.lt
  have hBg := h.Bg
  have hBb := h.Bb
  have hbs := h.bs
  have hlen := h.len
  have HY := fun p (hp : w.heap.size ≤ p) => h.young hp
  have hz : (w.alloc (.cells #[.int .i64 0, .string ⟨#[]⟩, .int .i64 0, .int .i64 0, .slice none 0 0] 28)).heap.size = w.heap.size + 1 := by simp [World.size_alloc]
  have HS := h.ext hx0
  have hM : Mv g v v w _ := Mv.of_ext hx0
  have k4 : (w.alloc (.cells #[.int .i64 0, .string ⟨#[]⟩, .int .i64 0, .int .i64 0, .slice none 0 0] 28)).cell? ⟨g, 4, none⟩ = some (.int .i64 0) := HS.blk.cell 4
  have hne0 : g ≠ w.heap.size := (by omega)
  clear h hx0
  go_enter Tryd.func38, Tryd.ntmps38
  go_wp2_with fail
  generalize (w.alloc (.cells #[.int .i64 0, .string ⟨#[]⟩, .int .i64 0, .int .i64 0, .slice none 0 0] 28)) = w1 at *
  obtain ⟨hb1, c0, c1, c2, c3⟩ := HS.cellsAt
  rw [ht] at c0 c1 c2 c3
  simp only at c0 c1 c2 c3
  have e0 : w1.cell? ⟨g, 0, none⟩ = some (.slice (some ⟨b, o, none⟩) all.length c) := HS.blk.cell 0
  have e1 : w1.cell? ⟨g, 1, none⟩ = some (.int .i64 (k : Int)) := HS.blk.cell 1
  have hkl := HS.hk
  have hne : g ≠ w1.heap.size := (by have := HS.blk.lt; omega)
  have hne2 : b ≠ w1.heap.size := (by have := HS.blk.lt; omega)
  have hki : (k : Int) < (all.length : Int) := by omega
  have hx1 := (Ext.new w1 (.cells #[.int .i64 tk, .string ⟨tt.toArray⟩, .int .i64 tn, .int .i64 tp] 52)).tr (Ext.drawn _)
  have bT := (Blk.new w1 52 #[.int .i64 tk, .string ⟨tt.toArray⟩, .int .i64 tn, .int .i64 tp]).ext (Ext.drawn _)
  have y0 := fun ob => (Ext.new w1 ob).cell c0
  have y1 := fun ob => (Ext.new w1 ob).cell c1
  have y2 := fun ob => (Ext.new w1 ob).cell c2
  have y3 := fun ob => (Ext.new w1 ob).cell c3
  have z0 := fun ob => (Ext.new w1 ob).cell e0
  have z1 := fun ob => (Ext.new w1 ob).cell e1
  replace HS := Lib.hid (HS.ext hx1)
  replace bR := Lib.hid (bR.ext hx1)
  replace hM := Lib.hid (hM.tr (Mv.of_ext hx1))
  replace bT := Lib.hid bT
  go_region
  clear y0 y1 y2 y3 z0 z1 c0 c1 c2 c3 e0 e1 hx1 hne hne2 hki k4
  generalize (w1.alloc (.cells #[.int .i64 tk, .string ⟨tt.toArray⟩, .int .i64 tn, .int .i64 tp] 52)).drew = w2 at *
  generalize w1.heap.size = q1 at *
  subst hz
  have t0 := bT.out.cell 0
  have t1 := bT.out.cell 1
  have t2 := bT.out.cell 2
  have t3 := bT.out.cell 3
  simp only [List.getElem?_toArray, List.getElem?_cons_succ, List.getElem?_cons_zero] at t0 t1 t2 t3
  have n1 : w.heap.size + 1 ≠ g := (by omega)
  have n2 : g ≠ w.heap.size + 1 := (by omega)
  obtain ⟨HN, HM⟩ := HS.out.node (by omega)
  have HF := Lib.hid (reader.fail_c _ g _ _ _ _ tp 4 HN.blk)
  have bR3 := Lib.hid (bR.out.setNe (q := g) hne0.symm 2 (.int .i64 ((s.n : Int) + 1)))
  have hM3 := Lib.hid (hM.out.tr HM)
  have e2 : w2.cell? ⟨g, 2, none⟩ = some (.int .i64 (s.n : Int)) := HS.out.blk.cell 2
  have f2 := HS.out.blk.frozen 2
  have gw2 : IntKind.i64.wrap ((s.n : Int) + 1) = (s.n : Int) + 1 := IntWalk.i64_in _ (by omega)
  clear HN HM bR hM
  have hc : 4 < lv ∨ (decide (4 < lv) = false ∧ (24 : Int) < (s.n : Int) + 1) := by
    by_cases h1 : 4 < lv
    · exact .inl h1
    · exact .inr ⟨by simpa using h1, by omega⟩
  clear hl
  rcases begins_how hb with h3 | ⟨h1, h2⟩ | ⟨h1, h2⟩ | ⟨h1, h2⟩
  · subst h3
    clear hb ht
    rcases hc with hc | ⟨hc1, hc2⟩
    all_goals as_aux_lemma =>
      go_wp2_with (first
        | (go_at_call 40; refine HF.out.mono ?_; rintro r w6 ⟨rfl, hb6, ho6⟩; have bR6 := Lib.hid (bR3.out.only ho6 hne0.symm))
        | (with_reducible refine is_store 28 (.tmp 4) (.tmp 83) rfl ?_; refine wpList_store_blk rfl rfl 28 (.tmp 4) (.tmp 83) rfl w.heap.size #[.int .i64 0, .string ⟨#[]⟩, .int .i64 0, .int .i64 0, .slice none 0 0] (by kernel_rfl) (by kernel_rfl) _ _ bR6.out 5 ex_isz rfl rfl (by simp [Value.oneCell']) ?_; intro w8 hB8 ho8; have r0 := hB8.cell 0; have r1 := hB8.cell 1; have r2 := hB8.cell 2; have r3 := hB8.cell 3; have r4 := hB8.cell 4; clear hB8; refine wpList_hide 4 ?_; intro a8 ha8 hd8; replace ha8 : a8.tmps[4]? = some (.pointer (some ⟨w.heap.size, 0, none⟩)) := ha8.trans (by kernel_rfl)))
      refine bodyPost_ret (by simp [results, Tryd.results38, go_sem, ha8, r0, r1, r2, r3, r4]; try rfl) (hd8.trans rfl) ?_
      exact ⟨ShEx.zero, ⟨_, _, _, _, hb6.only ho8 hne0⟩, ((hM3.out.tr (Mv.set ho6)).only ho8 (Nat.le_refl _)).chg⟩
  · subst h1 h2
    clear hb ht
    have hrs : CL.rsv [97, 108, 108] = true := by decide
    rcases hc with hc | ⟨hc1, hc2⟩
    all_goals as_aux_lemma =>
      go_wp2_with (first
        | (go_at_call 70; refine (clusterlocksref05.Reserved_c [97, 108, 108] _).mono ?_; rintro e w3 ⟨rfl, rfl⟩)
        | (go_at_call 40; refine HF.out.mono ?_; rintro r w6 ⟨rfl, hb6, ho6⟩; have bR6 := Lib.hid (bR3.out.only ho6 hne0.symm))
        | (with_reducible refine is_store 28 (.tmp 4) (.tmp 83) rfl ?_; refine wpList_store_blk rfl rfl 28 (.tmp 4) (.tmp 83) rfl w.heap.size #[.int .i64 0, .string ⟨#[]⟩, .int .i64 0, .int .i64 0, .slice none 0 0] (by kernel_rfl) (by kernel_rfl) _ _ bR6.out 5 ex_isz rfl rfl (by simp [Value.oneCell']) ?_; intro w8 hB8 ho8; have r0 := hB8.cell 0; have r1 := hB8.cell 1; have r2 := hB8.cell 2; have r3 := hB8.cell 3; have r4 := hB8.cell 4; clear hB8; refine wpList_hide 4 ?_; intro a8 ha8 hd8; replace ha8 : a8.tmps[4]? = some (.pointer (some ⟨w.heap.size, 0, none⟩)) := ha8.trans (by kernel_rfl)))
      refine bodyPost_ret (by simp [results, Tryd.results38, go_sem, ha8, r0, r1, r2, r3, r4]; try rfl) (hd8.trans rfl) ?_
      exact ⟨ShEx.zero, ⟨_, _, _, _, hb6.only ho8 hne0⟩, ((hM3.out.tr (Mv.set ho6)).only ho8 (Nat.le_refl _)).chg⟩
  · subst h1 h2
    clear hb ht
    have hrs : CL.rsv [97, 110, 121] = true := by decide
    rcases hc with hc | ⟨hc1, hc2⟩
    all_goals as_aux_lemma =>
      go_wp2_with (first
        | (go_at_call 70; refine (clusterlocksref05.Reserved_c [97, 110, 121] _).mono ?_; rintro e w3 ⟨rfl, rfl⟩)
        | (go_at_call 40; refine HF.out.mono ?_; rintro r w6 ⟨rfl, hb6, ho6⟩; have bR6 := Lib.hid (bR3.out.only ho6 hne0.symm))
        | (with_reducible refine is_store 28 (.tmp 4) (.tmp 83) rfl ?_; refine wpList_store_blk rfl rfl 28 (.tmp 4) (.tmp 83) rfl w.heap.size #[.int .i64 0, .string ⟨#[]⟩, .int .i64 0, .int .i64 0, .slice none 0 0] (by kernel_rfl) (by kernel_rfl) _ _ bR6.out 5 ex_isz rfl rfl (by simp [Value.oneCell']) ?_; intro w8 hB8 ho8; have r0 := hB8.cell 0; have r1 := hB8.cell 1; have r2 := hB8.cell 2; have r3 := hB8.cell 3; have r4 := hB8.cell 4; clear hB8; refine wpList_hide 4 ?_; intro a8 ha8 hd8; replace ha8 : a8.tmps[4]? = some (.pointer (some ⟨w.heap.size, 0, none⟩)) := ha8.trans (by kernel_rfl)))
      refine bodyPost_ret (by simp [results, Tryd.results38, go_sem, ha8, r0, r1, r2, r3, r4]; try rfl) (hd8.trans rfl) ?_
      exact ⟨ShEx.zero, ⟨_, _, _, _, hb6.only ho8 hne0⟩, ((hM3.out.tr (Mv.set ho6)).only ho8 (Nat.le_refl _)).chg⟩
  · subst h1
    clear hb ht
    obtain ⟨hq1, hq2⟩ := rsv_not h2
    rcases hc with hc | ⟨hc1, hc2⟩
    all_goals as_aux_lemma =>
      go_wp2_with (first
        | (go_at_call 70; refine (clusterlocksref05.Reserved_c tt _).mono ?_; rintro e w3 ⟨rfl, rfl⟩)
        | (go_at_call 40; refine HF.out.mono ?_; rintro r w6 ⟨rfl, hb6, ho6⟩; have bR6 := Lib.hid (bR3.out.only ho6 hne0.symm))
        | (with_reducible refine is_store 28 (.tmp 4) (.tmp 83) rfl ?_; refine wpList_store_blk rfl rfl 28 (.tmp 4) (.tmp 83) rfl w.heap.size #[.int .i64 0, .string ⟨#[]⟩, .int .i64 0, .int .i64 0, .slice none 0 0] (by kernel_rfl) (by kernel_rfl) _ _ bR6.out 5 ex_isz rfl rfl (by simp [Value.oneCell']) ?_; intro w8 hB8 ho8; have r0 := hB8.cell 0; have r1 := hB8.cell 1; have r2 := hB8.cell 2; have r3 := hB8.cell 3; have r4 := hB8.cell 4; clear hB8; refine wpList_hide 4 ?_; intro a8 ha8 hd8; replace ha8 : a8.tmps[4]? = some (.pointer (some ⟨w.heap.size, 0, none⟩)) := ha8.trans (by kernel_rfl)))
      refine bodyPost_ret (by simp [results, Tryd.results38, go_sem, ha8, r0, r1, r2, r3, r4]; try rfl) (hd8.trans rfl) ?_
      exact ⟨ShEx.zero, ⟨_, _, _, _, hb6.only ho8 hne0⟩, ((hM3.out.tr (Mv.set ho6)).only ho8 (Nat.le_refl _)).chg⟩
set_option maxHeartbeats 3200000 in
theorem reader.expr_atom (lv : Int) (h : RSt w g B base A c all v k s) {tn tp : Int} {tt : List UInt8} (ht : s.hd = ⟨1, tt, tn, tp⟩) (hr : CL.rsv tt = false) (hl1 : 1 ≤ lv) (hl2 : lv ≤ 4) (hn : s.n + 1 ≤ 24) (htl : tt.length ≤ maxLen) :
    Calls Tryd.prog 38 #[.pointer (some ⟨g, 0, none⟩), .int .i64 lv] w (RxPost w g B base A c all v (CL.atomP ⟨1, tt, tn, tp⟩ ⟨s.n + 1, s.l, s.r.tail⟩)) := by
  have hk5 : s.hd.kind ≠ 5 := by rw [ht]; simp
  obtain ⟨tk, htk⟩ : ∃ tk : Int, tk = 1 := ⟨_, rfl⟩
  rw [← htk] at ht
  replace htk := Lib.hid htk
  obtain ⟨b, o, rfl, hbB, -⟩ := h.cells
  have hx0 := Ext.new w (.cells #[.int .i64 0, .string ⟨#[]⟩, .int .i64 0, .int .i64 0, .slice none 0 0] 28)
  have bR := Blk.new w 28 #[.int .i64 0, .string ⟨#[]⟩, .int .i64 0, .int .i64 0, .slice none 0 0]
  have hlt := h.blk.lt
  have hBg := h.Bg
  have hBb := h.Bb
  have hbs := h.bs
  have hlen := h.len
  have HY := fun p (hp : w.heap.size ≤ p) => h.young hp
  have hz : (w.alloc (.cells #[.int .i64 0, .string ⟨#[]⟩, .int .i64 0, .int .i64 0, .slice none 0 0] 28)).heap.size = w.heap.size + 1 := by simp [World.size_alloc]
  have HS := h.ext hx0
  have hM : Mv g v v w _ := Mv.of_ext hx0
  have k4 : (w.alloc (.cells #[.int .i64 0, .string ⟨#[]⟩, .int .i64 0, .int .i64 0, .slice none 0 0] 28)).cell? ⟨g, 4, none⟩ = some (.int .i64 0) := HS.blk.cell 4
  have hne0 : g ≠ w.heap.size := (by omega)
  clear h hx0
  go_enter Tryd.func38, Tryd.ntmps38
  go_wp2_with fail
  generalize (w.alloc (.cells #[.int .i64 0, .string ⟨#[]⟩, .int .i64 0, .int .i64 0, .slice none 0 0] 28)) = w1 at *
  obtain ⟨hb1, c0, c1, c2, c3⟩ := HS.cellsAt
  rw [ht] at c0 c1 c2 c3
  simp only at c0 c1 c2 c3
  have e0 : w1.cell? ⟨g, 0, none⟩ = some (.slice (some ⟨b, o, none⟩) all.length c) := HS.blk.cell 0
  have e1 : w1.cell? ⟨g, 1, none⟩ = some (.int .i64 (k : Int)) := HS.blk.cell 1
  have hkl := HS.hk
  have hne : g ≠ w1.heap.size := (by have := HS.blk.lt; omega)
  have hne2 : b ≠ w1.heap.size := (by have := HS.blk.lt; omega)
  have hki : (k : Int) < (all.length : Int) := by omega
  have hx1 := (Ext.new w1 (.cells #[.int .i64 tk, .string ⟨tt.toArray⟩, .int .i64 tn, .int .i64 tp] 52)).tr (Ext.drawn _)
  have bT := (Blk.new w1 52 #[.int .i64 tk, .string ⟨tt.toArray⟩, .int .i64 tn, .int .i64 tp]).ext (Ext.drawn _)
  have y0 := fun ob => (Ext.new w1 ob).cell c0
  have y1 := fun ob => (Ext.new w1 ob).cell c1
  have y2 := fun ob => (Ext.new w1 ob).cell c2
  have y3 := fun ob => (Ext.new w1 ob).cell c3
  have z0 := fun ob => (Ext.new w1 ob).cell e0
  have z1 := fun ob => (Ext.new w1 ob).cell e1
  replace HS := Lib.hid (HS.ext hx1)
  replace bR := Lib.hid (bR.ext hx1)
  replace hM := Lib.hid (hM.tr (Mv.of_ext hx1))
  replace bT := Lib.hid bT
  go_region
  clear y0 y1 y2 y3 z0 z1 c0 c1 c2 c3 e0 e1 hx1 hne hne2 hki k4
  generalize (w1.alloc (.cells #[.int .i64 tk, .string ⟨tt.toArray⟩, .int .i64 tn, .int .i64 tp] 52)).drew = w2 at *
  generalize w1.heap.size = q1 at *
  subst hz
  have t0 := bT.out.cell 0
  have t1 := bT.out.cell 1
  have t2 := bT.out.cell 2
  have t3 := bT.out.cell 3
  simp only [List.getElem?_toArray, List.getElem?_cons_succ, List.getElem?_cons_zero] at t0 t1 t2 t3
  have n1 : w.heap.size + 1 ≠ g := (by omega)
  have n2 : g ≠ w.heap.size + 1 := (by omega)
  have htk1 := htk.out
  subst htk1
  clear htk
  obtain ⟨hq1, hq2⟩ := rsv_not hr
  obtain ⟨HD, HM⟩ := HS.out.deep hn hk5
  have hd1 : decide (4 < lv) = false := by simp; omega
  have hd2 : decide ((24 : Int) < (s.n : Int) + 1) = false := by simp; omega
  have e1 : w2.cell? ⟨g, 1, none⟩ = some (.int .i64 (k : Int)) := HS.out.blk.cell 1
  have e2 : w2.cell? ⟨g, 2, none⟩ = some (.int .i64 (s.n : Int)) := HS.out.blk.cell 2
  have f1 := HS.out.blk.frozen 1
  have f2 := HS.out.blk.frozen 2
  have gw2 : IntKind.i64.wrap ((s.n : Int) + 1) = (s.n : Int) + 1 := IntWalk.i64_in _ (by omega)
  have gw1 : IntKind.i64.wrap ((k : Int) + 1) = (k : Int) + 1 := IntWalk.i64_in _ (by omega)
  have bR3 := (bR.out.setNe (q := g) hne0.symm 2 (.int .i64 ((s.n : Int) + 1))).setNe (q := g) hne0.symm 1 (.int .i64 ((k : Int) + 1))
  have hM3 := Lib.hid (hM.out.tr HM)
  have HA := reader.atom_c HD ⟨1, tt, tn, tp⟩ htl
  unfold tkv at HA
  have hw3 := bR3.lt
  replace HA := Lib.hid (HA.mono fun e w5 hp => (⟨hp.shape, hp, fun hc => Chg.keep hc bR3 hne0.symm HD.own (by decide)⟩ : _ ∧ _ ∧ (Rl.Chg (fun b => b = g ∨ v.ownBlock = some b) _ w5 → Blk w5 w.heap.size 28 _)))
  generalize CL.atomP ⟨1, tt, tn, tp⟩ ⟨s.n + 1, s.l, s.r.tail⟩ = R at *
  clear HD HM bR hM ht bR3 HS
  go_wp2_with (first
    | (go_at_call 70; refine (clusterlocksref05.Reserved_c tt _).mono ?_; rintro e w3 ⟨rfl, rfl⟩)
    | (go_at_call 71; refine HA.out.mono ?_; rintro e w5 ⟨⟨i5, n5, m5, u5, A5, l5, c5, rfl, hcg⟩, hp, hk⟩; have bR5 := Lib.hid (hk hcg); have hp := Lib.hid hp; clear hcg hk)
    | (with_reducible refine is_store 28 (.tmp 4) (.tmp 94) rfl ?_; refine wpList_store_blk rfl rfl 28 (.tmp 4) (.tmp 94) rfl w.heap.size #[.int .i64 i5, .string n5, .int .i64 m5, .int .i64 u5, .slice A5 l5 c5] (by kernel_rfl) (by kernel_rfl) _ _ bR5.out 5 ex_isz rfl rfl (by simp [Value.oneCell']) ?_; intro w8 hB8 ho8; have r0 := hB8.cell 0; have r1 := hB8.cell 1; have r2 := hB8.cell 2; have r3 := hB8.cell 3; have r4 := hB8.cell 4; clear hB8; refine wpList_hide 4 ?_; intro a8 ha8 hd8; replace ha8 : a8.tmps[4]? = some (.pointer (some ⟨w.heap.size, 0, none⟩)) := ha8.trans (by kernel_rfl)))
  refine bodyPost_ret (by simp [results, Tryd.results38, go_sem, ha8, r0, r1, r2, r3, r4]; try rfl) (hd8.trans rfl) ?_
  exact hp.out.up hM3.out (Nat.le_refl _) hw3 hne0 (by omega) bR5.out (by decide) ho8
end Go.Proofs.YtlfnpkjfnafeaaaDoor
