
/- The mill's Request: what it makes is a valid request. -/
import Derived.Test.YtlfnpkjfnafeaaaDoorZ12
import Derived.Test.YtlfnpkjfnafeaaaDoorZ9
import Derived.Test.YtlfnpkjfnafeaaaDoorZ5
namespace Go.Proofs.YtlfnpkjfnafeaaaDoor
open Go.RowKit
set_option linter.unusedVariables false
set_option linter.unusedSimpArgs false
set_option maxRecDepth 100000
/-- what Request gives -/
def ReqPost (w : World) (g : Nat) (r : Ending) (w' : World) : Prop := ∃ (q : CL.Rq) (cs : List Value), r = .returned (.agg (cs ++ [Value.int .i64 q.p, Value.int .i64 q.m]).toArray) ∧ CL.validQ q = true ∧ Rd w' w'.heap.size q.e cs ∧ Only g w w'
set_option maxHeartbeats 3200000 in
theorem clusterlocksmill.Request_c (L : List CL.Re) (w : World) (g : Nat) (A : Option Addr) (c : Nat) (hT : TapeAt w g) (hL : CL.GoodCat L) (hr : Sits w A (recs L)) (hA : ∀ b o, A = some ⟨b, o, none⟩ → g < b) :
    Calls Tryd.prog 22 #[.pointer (some ⟨g, 0, none⟩), .slice A 6 c] w (ReqPost w g) := by
  have hgl := hT.lt
  obtain ⟨hl6, hmem⟩ := hL.mem
  have hAb : ∀ b o, A = some ⟨b, o, none⟩ → b < w.heap.size := by
    obtain ⟨b, o, rfl, hcell⟩ := hr.get (by rw [recs_len]; omega)
    intro b' o' e
    injection e with e; injection e with e1 e2; subst e1
    have hne : 0 < (recs L).length := by rw [recs_len]; omega
    exact World.block_lt_of_cell? _ _ (hcell 0 _ (List.getElem?_eq_getElem hne))
  have hx0 := Ext.new w (.cells #[.int .i64 0, .string ⟨#[]⟩, .int .i64 0, .int .i64 0, .slice none 0 0, .int .i64 0, .int .i64 0] 30)
  have b0 := Blk.new w 30 #[.int .i64 0, .string ⟨#[]⟩, .int .i64 0, .int .i64 0, .slice none 0 0, .int .i64 0, .int .i64 0]
  have hT0 := hT.ext hx0
  have hS0 := hr.ext hx0
  go_enter Tryd.func22, Tryd.ntmps22
  go_wp2_with fail
  generalize w.alloc (.cells #[.int .i64 0, .string ⟨#[]⟩, .int .i64 0, .int .i64 0, .slice none 0 0, .int .i64 0, .int .i64 0] 30) = w0 at *
  have hO0 : Only g w w0 := Only.of_ext hx0
  refine (Tape.Next_c g 8 w0 (by omega) (by omega) hT0).mono ?_
  rintro r w1 ⟨n1, rfl, ha1, hb1, ho1, hT1⟩
  have b01 := b0.only ho1 (by omega)
  have hS1 := hS0.only ho1 hA
  have hO1 := hO0.tr ho1
  have hzw1 := b01.lt
  have bR := Blk.new w1 30 #[.int .i64 0, .string ⟨#[]⟩, .int .i64 0, .int .i64 0, .slice none 0 0, .int .i64 n1, .int .i64 0]
  have hx1 := Ext.new w1 (.cells #[.int .i64 0, .string ⟨#[]⟩, .int .i64 0, .int .i64 0, .slice none 0 0, .int .i64 n1, .int .i64 0] 30)
  have b02 := b01.ext hx1
  have hT2 := hT1.ext hx1
  have hS2 := hS1.ext hx1
  have hO2 := hO1.tr (Only.of_ext hx1)
  clear b0 hT0 hS0 hO0 ho1 b01 hS1 hO1 hT1
  go_wp2_with fail
  generalize w1.alloc (.cells #[.int .i64 0, .string ⟨#[]⟩, .int .i64 0, .int .i64 0, .slice none 0 0, .int .i64 n1, .int .i64 0] 30) = w2 at *
  generalize w1.heap.size = p at *
  refine (Tape.Next_c g 5 w2 (by omega) (by omega) hT2).mono ?_
  rintro r w3 ⟨n2, rfl, ha2, hb2, ho3, hT3⟩
  have bR3 := bR.only ho3 (by omega)
  have b03 := b02.only ho3 (by omega)
  have hS3 := hS2.only ho3 hA
  have hO3 := hO2.tr ho3
  have hp3 := bR3.lt
  clear bR b02 hS2 hO2 hT2 ho3 hx1 hx0
  by_cases h1 : n2 = 1
  · subst h1
    go_wp2_with fail
    refine (Tape.Next_c g 20 w3 (by omega) (by omega) hT3).mono ?_
    rintro r w4 ⟨n3, rfl, ha3, hb3, ho4, hT4⟩
    have bR4 := bR3.only ho4 (by omega)
    have b04 := b03.only ho4 (by omega)
    have hS4 := hS3.only ho4 hA
    have hO4 := hO3.tr ho4
    have hp4 := bR4.lt
    have hw1 : IntKind.i64.wrap (1 + n3) = 1 + n3 := IntWalk.i64_in _ (by omega)
    have f6 := bR4.frozen 6
    have c6 := bR4.cell 6
    simp only [List.getElem?_toArray, List.getElem?_cons_succ, List.getElem?_cons_zero] at c6
    have bR5 := bR4.set 6 (.int .i64 (1 + n3))
    have b05 := b04.only (Only.rf.set (g := p) 6 (.int .i64 (1 + n3))) (by omega)
    have hS5 := hS4.setOther (g := p) (i := 6) (u := .int .i64 (1 + n3)) (fun b o _ e => by have := hAb b o e; omega)
    have hT5 := hT4.setNew (p := p) (by omega) 6 (.int .i64 (1 + n3))
    have hO5 := hO4.setNew (p := p) (by omega) 6 (.int .i64 (1 + n3))
    simp only [List.setIfInBounds_toArray, List.set_cons_succ, List.set_cons_zero] at bR5
    clear bR3 b03 hS3 hO3 hT3 ho4
    go_wp2_with fail
    clear bR4 b04 hS4 hO4 hT4 f6 c6
    generalize w4.setCell ⟨p, 6, none⟩ (.int .i64 (1 + n3)) = w5 at *
    have hM : 0 ≤ 1 + n3 ∧ 1 + n3 ≤ 1000 := by omega
    generalize 1 + n3 = M at *
    have hgl5 := hT5.lt
    have hp5 := bR5.lt
    refine (clusterlocksmill.Expr_c L _ g A c hT5 hL hS5 hA).mono ?_
    rintro r w6 ⟨la, hGA, hp⟩
    obtain ⟨ek, k', n', m', u', A2, l2, c2, rfl, hGr, hR6, hO6, hT6⟩ := hp.get
    obtain ⟨hv, hd, hc0, hc10⟩ := hGA.facts hL
    obtain ⟨hval, hsub, hpos⟩ := hGr.valid hv hGA.1 hd
    have bR6 := Lib.hid (bR5.only hO6 (by omega))
    have b06 := b05.only hO6 (by omega)
    have hz6 := hO6.size
    have hOg := hO5.tr hO6
    go_wp2_with (first
      | (with_reducible refine is_store 28 (.tmp 19) (.tmp 18) rfl ?_; refine wpList_store_rq rfl rfl 28 (.tmp 19) (.tmp 18) rfl p (.int .i64 k') (.string n') (.int .i64 m') (.int .i64 u') (.slice A2 l2 c2) rfl rfl _ bR6.out ex_isz (by simp [Value.oneCell']) ?_; intro w7 bR7 ho7; obtain ⟨e0, e1, e2, e3, e4, e5, e6⟩ := bR7.c7; have b07 := Lib.hid (b06.only ho7 (by omega)); have ho7 := Lib.hid ho7)
      | (with_reducible refine is_store 30 (.tmp 4) (.tmp 20) rfl ?_; refine wpList_store_blk rfl rfl 30 (.tmp 4) (.tmp 20) rfl w.heap.size #[.int .i64 k', .string n', .int .i64 m', .int .i64 u', .slice A2 l2 c2, .int .i64 n1, .int .i64 M] rfl rfl _ _ b07.out 7 rq_isz rfl rfl (by simp [Value.oneCell']) ?_; intro w8 b08 ho8; clear e0 e1 e2 e3 e4 e5 e6; obtain ⟨r0, r1, r2, r3, r4, r5, r6⟩ := b08.c7))
    refine bodyPost_ret (v := .agg #[.int .i64 k', .string n', .int .i64 m', .int .i64 u', .slice A2 l2 c2, .int .i64 n1, .int .i64 M]) (by simp [results, Tryd.results22, go_sem, r0, r1, r2, r3, r4, r5, r6]; try rfl) rfl ?_
    have hz7 := ho7.out.size
    have hz8 := ho8.size
    have hs7 : Same w6 w7 w5.heap.size w6.heap.size := Same.only ho7.out (by omega) (Nat.le_refl _)
    have hs8 : Same w7 w8 w5.heap.size w6.heap.size := Same.only ho8 (by omega) hz7
    refine ⟨⟨ek, n1, M⟩, [.int .i64 k', .string n', .int .i64 m', .int .i64 u', .slice A2 l2 c2], rfl, ?_, ((hR6.same (hs7.tr hs8)).rd).le (by omega), (hOg.grow (r := some p) ho7.out (fun x e => by injection e; omega)).grow (r := some w.heap.size) ho8 (fun x e => by injection e; omega)⟩
    simp only [CL.validQ, hval, Bool.true_and, decide_eq_true_eq]
    omega
  · have h1b : (n2 == 1) = false := by simpa using h1
    obtain ⟨w5, rfl⟩ : ∃ w5, w5 = w3 := ⟨w3, rfl⟩
    have hT5 := hT3
    have hS5 := hS3
    have hO5 := hO3
    have bR5 := bR3
    have b05 := b03
    go_wp2_with fail
    have hgl5 := hT5.lt
    have hp5 := bR5.lt
    refine (clusterlocksmill.Expr_c L _ g A c hT5 hL hS5 hA).mono ?_
    rintro r w6 ⟨la, hGA, hp⟩
    obtain ⟨ek, k', n', m', u', A2, l2, c2, rfl, hGr, hR6, hO6, hT6⟩ := hp.get
    obtain ⟨hv, hd, hc0, hc10⟩ := hGA.facts hL
    obtain ⟨hval, hsub, hpos⟩ := hGr.valid hv hGA.1 hd
    have bR6 := Lib.hid (bR5.only hO6 (by omega))
    have b06 := b05.only hO6 (by omega)
    have hz6 := hO6.size
    have hOg := hO5.tr hO6
    go_wp2_with (first
      | (with_reducible refine is_store 28 (.tmp 19) (.tmp 18) rfl ?_; refine wpList_store_rq rfl rfl 28 (.tmp 19) (.tmp 18) rfl p (.int .i64 k') (.string n') (.int .i64 m') (.int .i64 u') (.slice A2 l2 c2) rfl rfl _ bR6.out ex_isz (by simp [Value.oneCell']) ?_; intro w7 bR7 ho7; obtain ⟨e0, e1, e2, e3, e4, e5, e6⟩ := bR7.c7; have b07 := Lib.hid (b06.only ho7 (by omega)); have ho7 := Lib.hid ho7)
      | (with_reducible refine is_store 30 (.tmp 4) (.tmp 20) rfl ?_; refine wpList_store_blk rfl rfl 30 (.tmp 4) (.tmp 20) rfl w.heap.size #[.int .i64 k', .string n', .int .i64 m', .int .i64 u', .slice A2 l2 c2, .int .i64 n1, .int .i64 0] rfl rfl _ _ b07.out 7 rq_isz rfl rfl (by simp [Value.oneCell']) ?_; intro w8 b08 ho8; clear e0 e1 e2 e3 e4 e5 e6; obtain ⟨r0, r1, r2, r3, r4, r5, r6⟩ := b08.c7))
    refine bodyPost_ret (v := .agg #[.int .i64 k', .string n', .int .i64 m', .int .i64 u', .slice A2 l2 c2, .int .i64 n1, .int .i64 0]) (by simp [results, Tryd.results22, go_sem, r0, r1, r2, r3, r4, r5, r6]; try rfl) rfl ?_
    have hz7 := ho7.out.size
    have hz8 := ho8.size
    have hs7 : Same w6 w7 w5.heap.size w6.heap.size := Same.only ho7.out (by omega) (Nat.le_refl _)
    have hs8 : Same w7 w8 w5.heap.size w6.heap.size := Same.only ho8 (by omega) hz7
    refine ⟨⟨ek, n1, 0⟩, [.int .i64 k', .string n', .int .i64 m', .int .i64 u', .slice A2 l2 c2], rfl, ?_, ((hR6.same (hs7.tr hs8)).rd).le (by omega), (hOg.grow (r := some p) ho7.out (fun x e => by injection e; omega)).grow (r := some w.heap.size) ho8 (fun x e => by injection e; omega)⟩
    simp only [CL.validQ, hval, Bool.true_and, decide_eq_true_eq]
    omega
end Go.Proofs.YtlfnpkjfnafeaaaDoor
