/-  -/
import Derived.Test.YtlfnpkjfnafeaaaDoorZ8
import Derived.Test.YtlfnpkjfnafeaaaDoorZ7
import Derived.Defers
import Derived.Recover
import Derived.Deep.RegionHeld3
import Derived.BigRegion
import Derived.Test.YtlfnpkjfnafeaaaDoorZ3
/- The walks of the program's parser, fifth part: list, and expr at every level. -/
namespace Go.Proofs.YtlfnpkjfnafeaaaDoor
open Go.RowKit
set_option linter.unusedVariables false
set_option maxRecDepth 100000
variable {w : World} {g B base : Nat} {A : Option Addr} {c : Nat} {all : List CL.Tk} {v : Value} {k : Nat} {s : CL.PS}
theorem own_mv {w w' : World} {g lo n z : Nat} {E : TypeId} {v v' kv : Value} {xs : List Value} (h : w.ownsRow lo E z kv n xs) (hm : Mv g v v' w w') (hk : ∀ y, kv.ownBlock = some y → y ≠ g ∧ v.ownBlock ≠ some y) : w'.ownsRow lo E z kv n xs := by
  refine ⟨h.1, ?_⟩
  rcases h.2 with hn | ⟨p, cap, cur, rfl, hb, hgg, rest⟩
  · exact .inl hn
  · refine .inr ⟨p, cap, cur, rfl, hb, ?_, rest⟩
    rw [hm.chg.block p (Array.getElem?_eq_some_iff.1 hgg).1 (fun e => by
      obtain ⟨h1, h2⟩ := hk p rfl
      rcases e with e | e
      · exact h1 e
      · exact h2 e)]
    exact hgg
/-- behind the first expression -/
theorem LSt.first {rd : CL.PS → CL.PR CL.Ex} {R : CL.PR (List CL.Ex)} {w1 w2 : World} {v2 : Value} {k2 : Nat} {s2 : CL.PS} {x : CL.Ex} {cs : List Value} (hm2 : Mv g v v2 w w2) (hp2 : PSt w2 g B base A c all v2 k2 s2) (hz1 : w.heap.size ≤ w1.heap.size) (hz2 : w1.heap.size ≤ w2.heap.size) (hrd : RdF w2 w1.heap.size w2.heap.size [v2.ownBlock] x cs) (hn : 1 ≤ s2.n ∧ s2.n ≤ 24)
    (hr : R = CL.bindP (CL.moreP rd 25 [x] s2) fun l s3 => CL.bindP (CL.expectP 4 [41] s3) fun _ s4 => .ok (l, s4)) :
    LSt w g B base A c all v R rd (w2.alloc (.cells cs.toArray 28)) (.slice (some ⟨w2.heap.size, 0, none⟩) 1 1) [x] [cs] v2 k2 25 s2 := by
  refine ⟨hp2.ext (Ext.new _ _), hm2.tr (Mv.of_ext (Ext.new _ _)), ?_, ?_, by omega, hn.2, by simpa using hn.1, hr⟩
  · simpa using own_new w2 w.heap.size 28 5 1 cs (by omega) (by rw [hrd.len]) (by decide)
  · refine (KidsF.nil _ _ _ _).snoc (e := x) ?_
    have r1 : RdF w2 w.heap.size w2.heap.size [v2.ownBlock] x cs := hrd.wide hz1 (Nat.le_refl _) (fun _ _ _ h => h)
    refine r1.go (Rl.Chg.of_ext (E := fun _ => False) (Ext.new _ _)) (fun b hb => hb.elim) (fun y hy => ?_)
    simp only [List.mem_cons, List.not_mem_nil, or_false] at hy
    rcases hy with rfl | rfl
    · exact .inl (by simp)
    · exact .inr fun b hb => .inl (by simp only [Value.ownBlock, Option.some.injEq] at hb; omega)
/-- what the loop of list bears -/
def LRel (w : World) (g B base : Nat) (A : Option Addr) (c : Nat) (all : List CL.Tk) (v : Value) (R : CL.PR (List CL.Ex)) (rd : CL.PS → CL.PR CL.Ex) (kv : Value) (wr : World) : Prop :=
  ∃ acc vs v' k' m s' A' c', kv = .slice A' acc.length c' ∧ LSt w g B base A c all v R rd wr kv acc vs v' k' m s'
theorem LRel.mk' {R : CL.PR (List CL.Ex)} {rd : CL.PS → CL.PR CL.Ex} {wr : World} {kv : Value} {acc : List CL.Ex} {vs : List (List Value)} {v' : Value} {k' m : Nat} {s' : CL.PS} (h : LSt w g B base A c all v R rd wr kv acc vs v' k' m s') : LRel w g B base A c all v R rd kv wr := by
  obtain ⟨A', c', e, _⟩ := own_form h.own
  exact ⟨acc, vs, v', k', m, s', A', c', e, h⟩
set_option maxHeartbeats 3200000 in
theorem parser.list_c (d : Nat) (lv : Int) (hE : ExC d lv) (h : PSt w g B base A c all v k s) (hn : s.n ≤ 24) : Calls Tryd.prog 67 #[.pointer (some ⟨g, 0, none⟩), .int .i64 lv] w (LiPost w g B base A c all v (CL.listP (CL.exprP d) s)) := by
  have hlt := h.blk.lt
  have hB0 := h.Bs
  have hS0 := Lib.hid h
  have hBg := h.Bg
  have HY := fun p (hp : w.heap.size ≤ p) => h.young hp
  cases hs : CL.sees 4 [40] s with
  | false =>
    have HR : CL.listP (CL.exprP d) s = .error (s.hd.pos, 8) := by unfold CL.listP CL.expectP; rw [hs]; rfl
    have HC := parser.expect_er h 4 [40] hs
    rw [HR]
    clear h HR
    unfold failE at HC
    go_enter Tryd.func67, Tryd.ntmps67
    go_wp2_with (go_at_call 66; refine HC.mono ?_; rintro e w1 ⟨rfl, hx1⟩)
    exact ⟨rfl, rfl, hx1.mono hB0⟩
  | true =>
    have HC := parser.expect_ok h 4 [40] hs (by decide)
    have HR : CL.listP (CL.exprP d) s = CL.bindP (CL.exprP d s.next) fun x s2 => CL.bindP (CL.moreP (CL.exprP d) 25 [x] s2) fun l s3 => CL.bindP (CL.expectP 4 [41] s3) fun _ s4 => .ok (l, s4) := by unfold CL.listP CL.expectP; rw [hs]; rfl
    clear h
    cases hx : CL.exprP d s.next with
    | error q =>
      have HR2 : CL.listP (CL.exprP d) s = .error q := by rw [HR, hx]; rfl
      rw [HR2]
      clear HR HR2
      go_enter Tryd.func67, Tryd.ntmps67
      go_wp2_with (first
        | (go_at_call 66; refine HC.mono ?_; rintro e w1 ⟨rfl, hp1, hm1⟩; have hp1 := Lib.hid hp1; have hm1 := Lib.hid hm1)
        | (go_at_call 35; refine (hE _ _ _ _ _ _ _ _ _ _ hp1.out hn).mono ?_; intro e w2 hp; obtain ⟨he, hb2⟩ := hp.er hx; unfold failE at he; subst he))
      exact ⟨rfl, rfl, (hS0.out.below hm1.out).trans hb2⟩
    | ok z =>
      obtain ⟨x, s2⟩ := z
      have HR2 : CL.listP (CL.exprP d) s = CL.bindP (CL.moreP (CL.exprP d) 25 [x] s2) fun l s3 => CL.bindP (CL.expectP 4 [41] s3) fun _ s4 => .ok (l, s4) := by rw [HR, hx]; rfl
      have hcn := CL.expr_n d s.next x s2 hn hx
      have HRH := Lib.hid HR2
      generalize CL.listP (CL.exprP d) s = R at *
      clear HR HR2
      go_enter Tryd.func67, Tryd.ntmps67
      go_wp2_with (first
        | (go_at_call 66; refine HC.mono ?_; rintro e w1 ⟨rfl, hp1, hm1⟩; have hp1 := Lib.hid hp1; have hm1 := Lib.hid hm1)
        | (go_at_call 35; refine (hE _ _ _ _ _ _ _ _ _ _ hp1.out hn).mono ?_; intro e w2 hp; obtain ⟨i1, n1, m1, u1, A1, l1, c1, v2, k2, rfl, hp2, hm2, hrd2⟩ := hp.ok hx; have HL := Lib.hid (LSt.first (R := R) (hm1.out.tr hm2) hp2 hm1.out.chg.size hm2.chg.size hrd2 ⟨by omega, hcn.2⟩ HRH.out); clear hp hp2 hm2 hrd2))
      clear HC hp1 hm1 HRH hcn hx hs
      have HL := Lib.hid (LRel.mk' HL.out)
      go_loopw [5] (fun kv wr => LRel w g B base A c all v R (CL.exprP d) kv wr) (fun kv _ => 30 - slLen kv)
      case atStart => exact HL.out
      case round =>
        clear HL
        obtain ⟨acc, vs, v', k', m, s', A', c', rfl, hL⟩ := hrel
        have hPr := Lib.hid hL.p
        have HS := parser.sees_c hPr.out 4 [44]
        have gw := hPr.out.wr
        have hLn := hL.n
        have hLl := hL.l
        have hLz := hL.mv.chg.size
        have hL := Lib.hid hL
        cases hsr : CL.sees 4 [44] s' with
        | true =>
          rw [hsr] at HS
          have hk5 : s'.hd.kind ≠ 5 := by rw [sees_kind hsr]; decide
          cases hxr : CL.exprP d s'.next with
          | error q =>
            have HR := hL.out.err hsr hxr
            rw [HR]
            clear HR
            go_wp2_with (first
              | (go_at_call 69; refine HS.mono ?_; rintro e w3 ⟨rfl, hx3⟩; obtain ⟨e1, f1, _, _, m1⟩ := (hPr.out.ext hx3).facts)
              | (go_at_call 35; have hP := (hPr.out.ext hx3).next hk5; refine (hE _ _ _ _ _ _ _ _ _ _ hP.1 hLn).mono ?_; intro e w4 hp; obtain ⟨he, hb4⟩ := hp.er hxr; unfold failE at he; subst he; have hP2 := Lib.hid hP.2; clear hP hp))
            exact ⟨rfl, rfl, (hS0.out.below ((hL.out.mv.tr (Mv.of_ext hx3)).tr hP2.out)).trans hb4⟩
          | ok z =>
            obtain ⟨xr, sr⟩ := z
            have hnk : ∀ y, (Value.slice A' acc.length c').ownBlock = some y → y ≠ g ∧ v'.ownBlock ≠ some y := fun y hy => ⟨by have := (hL.out.own.lt y hy).1; omega, own_own hPr.out.own hL.out.own (by decide) hy⟩
            have hnk := Lib.hid hnk
            go_wp2_with (first
              | (go_at_call 69; refine HS.mono ?_; rintro e w3 ⟨rfl, hx3⟩; obtain ⟨e1, f1, _, _, m1⟩ := (hPr.out.ext hx3).facts)
              | (go_at_call 35; have hP := (hPr.out.ext hx3).next hk5; refine (hE _ _ _ _ _ _ _ _ _ _ hP.1 hLn).mono ?_; intro e w4 hp; obtain ⟨i5, n5, m5, u5, A5, l5, c5, v5, k5, rfl, hp5, hm5, hrd5⟩ := hp.ok hxr; have hM5 := (((Mv.of_ext hx3).tr hP.2).tr hm5); have hz5 := hM5.chg.size; have hO5 := Lib.hid (own_mv hL.out.own hM5 hnk.out); have hM5 := Lib.hid hM5; have hz6 := hm5.chg.size; have hz7 := Nat.le_trans hx3.size hP.2.chg.size; have hp5 := Lib.hid hp5; have hrd5 := Lib.hid hrd5; clear hP hp hm5)
              | (at_builtin; refine wpList_append_row _ rfl (.tmp 21) (.tmp 25) _ rfl w.heap.size 28 5 64 _ Tryd.underlying26 ex_info rfl (by omega) _ _ _ rfl (own_ext hO5.out (Ext.new _ _)) _ _ _ [.int .i64 i5, .string n5, .int .i64 m5, .int .i64 u5, .slice A5 l5 c5] rfl rfl (Sits.new _ _ _) (by simp [Value.oneCell']) (by simp only [maxLen]; omega) (by omega) (by simp; omega) ?_; intro kv6 w6 hown6 hb6 hg6 hrow6; obtain ⟨A6, c6, rfl, _, _⟩ := own_form hown6; have HL6 := Lib.hid (LRel.mk' (hL.out.step (CL.expr_n d) hsr hxr hz7 hM5.out hp5.out hrd5.out hz6 hlt hB0 hown6 hg6 hrow6 hO5.out)); clear hown6 hb6 hg6 hrow6))
            go_roundw
            case rel => exact HL6.out
            case measure => simp [slLen]; omega
        | false =>
          rw [hsr] at HS
          have HR := hL.out.fin hsr
          cases hs4 : CL.sees 4 [41] s' with
          | false =>
            have HR2 : R = .error (s'.hd.pos, 8) := by rw [HR]; unfold CL.expectP; rw [hs4]; rfl
            have HR2 := Lib.hid HR2
            clear HR
            go_wp2_with (first
              | (go_at_call 69; refine HS.mono ?_; rintro e w3 ⟨rfl, hx3⟩)
              | (go_at_call 66; refine (parser.expect_er (hPr.out.ext hx3) 4 [41] hs4).mono ?_; unfold failE; rintro e w4 ⟨rfl, hx4⟩))
            refine ⟨rfl, ?_⟩
            exact ⟨rfl, below_ext (hS0.out.below hL.out.mv) (hx3.tr hx4) hB0⟩
          | true =>
            have HR2 : R = .ok (acc, s'.next) := by rw [HR]; unfold CL.expectP; rw [hs4]; rfl
            have HR2 := Lib.hid HR2
            clear HR
            go_wp2_with (first
              | (go_at_call 69; refine HS.mono ?_; rintro e w3 ⟨rfl, hx3⟩)
              | (go_at_call 66; refine (parser.expect_ok (hPr.out.ext hx3) 4 [41] hs4 (by decide)).mono ?_; rintro e w4 ⟨rfl, hp4, hm4⟩; have hp4 := Lib.hid hp4; have hm4 := Lib.hid ((Mv.of_ext (v := v') (g := g) hx3).tr hm4)))
            go_ret
            rw [HR2.out]
            have hK := hL.out.kids
            have hO := hL.out.own
            have hnk : ∀ y, (Value.slice A' acc.length c').ownBlock = some y → y ≠ g ∧ v'.ownBlock ≠ some y := fun y hy => ⟨by have := (hO.lt y hy).1; omega, own_own hPr.out.own hO (by decide) hy⟩
            have hO4 := own_mv hO hm4.out hnk
            obtain ⟨_, _, ef, hcl, _⟩ := own_form hO
            injection ef with _ _ ef
            subst ef
            refine ⟨A', c', vs, v', _, rfl, hcl, (show acc.length ≤ 24 from by omega), hp4.out, hL.out.mv.tr hm4.out, ?_, ?_⟩
            · refine hK.go hm4.out.chg (fun b hb => ?_) (fun y hy => .inl ?_)
              · rcases hb with hb | hb
                · exact .inr (by omega)
                · exact .inl (by simp [hb])
              · simp only [List.mem_singleton] at hy; simp [hy]
            · refine SitsF.of_own hO4 ?_
              by_cases hv : (Value.slice A' acc.length c').ownBlock ∈ [v'.ownBlock]
              · simp only [List.mem_singleton] at hv
                cases hb : (Value.slice A' acc.length c').ownBlock with
                | some y => rw [hb] at hv; exact absurd hv.symm (hnk y hb).2
                | none =>
                  right
                  rcases hO.2 with ⟨e1, e2⟩ | ⟨p, _, _, e1, _⟩
                  · exact List.eq_nil_of_length_eq_zero (by rw [hO.1, e2])
                  · rw [e1] at hb; simp [Value.ownBlock] at hb
              · exact .inl hv
end Go.Proofs.YtlfnpkjfnafeaaaDoor
/- The walks of the program's parser, sixth part: expr. -/
namespace Go.Proofs.YtlfnpkjfnafeaaaDoor
open Go.RowKit
set_option linter.unusedVariables false
set_option maxRecDepth 100000
variable {w : World} {g B base : Nat} {A : Option Addr} {c : Nat} {all : List CL.Tk} {v : Value} {k : Nat} {s : CL.PS}
set_option maxHeartbeats 1600000 in
theorem parser.expr_bad (h : PSt w g B base A c all v k s) (lv : Int) {tk tn tp : Int} {tt : List UInt8} (ht : s.hd = ⟨tk, tt, tn, tp⟩) (hb : CL.beginsT ⟨tk, tt, tn, tp⟩ = false) :
    Calls Tryd.prog 35 #[.pointer (some ⟨g, 0, none⟩), .int .i64 lv] w fun e w' => e = failE tp 8 ∧ Below B w w' := by
  have hx0 := Ext.new w (.cells #[.int .i64 0, .string ⟨#[]⟩, .int .i64 0, .int .i64 0, .slice none 0 0] 28)
  have bR := Lib.hid (Blk.new w 28 #[.int .i64 0, .string ⟨#[]⟩, .int .i64 0, .int .i64 0, .slice none 0 0])
  have HC := parser.peek_c (h.ext hx0)
  have HF := fun m w' => request.fail_c s.hd m w'
  have HB := fun w' => request.begins_c s.hd w'
  have hlt := h.blk.lt
  have hB0 := h.Bs
  have hBg := h.Bg
  have gw1 := h.wr
  have gw2 : IntKind.i64.wrap ((s.n : Int) + 1) = (s.n : Int) + 1 := IntWalk.i64_in _ (by have := h.n30; omega)
  have hS := Lib.hid h
  rw [ht] at HC HF HB
  rw [hb] at HB
  unfold tkv failE at *
  simp only at HC HF HB
  clear h ht hb
  go_enter Tryd.func35, Tryd.ntmps35
  go_wp2_with (first
    | (go_at_call 63; refine HC.mono ?_; rintro e w1 ⟨rfl, hx1⟩; have hz1 := hx1.size; simp only [World.size_alloc] at hz1; have bT := Lib.hid (Blk.new w1 52 #[.int .i64 tk, .string ⟨tt.toArray⟩, .int .i64 tn, .int .i64 tp])) | (go_at_call 64; refine (HB _).mono ?_; rintro e w3 ⟨rfl, hx3⟩; have hX := hx0.tr (hx1.tr ((Ext.new _ _).tr hx3)); have hS3 := Lib.hid (hS.out.ext hX); obtain ⟨e1, f1, e2, f2, m1⟩ := hS3.out.facts; have bR3 := Lib.hid (bR.out.ext (hx1.tr ((Ext.new _ _).tr hx3))); have bT3 := Lib.hid (bT.out.ext hx3); have t0 := bT3.out.cell 0; have t1 := bT3.out.cell 1; have t2 := bT3.out.cell 2; have t3 := bT3.out.cell 3; have hz3 := bT3.out.lt; clear bR bT)
    | (go_at_call 65; refine (HF _ _).mono ?_; rintro e w4 ⟨rfl, hx4⟩))
  exact ⟨rfl, rfl, (hX.tr hx4).mono hB0⟩
set_option maxHeartbeats 1600000 in
theorem parser.expr_deep (h : PSt w g B base A c all v k s) (lv : Int) {tk tn tp : Int} {tt : List UInt8} (ht : s.hd = ⟨tk, tt, tn, tp⟩) (hb : CL.beginsT ⟨tk, tt, tn, tp⟩ = true) (hn : s.n ≤ 24) (hl : 4 < lv ∨ 24 < s.n + 1) :
    Calls Tryd.prog 35 #[.pointer (some ⟨g, 0, none⟩), .int .i64 lv] w fun e w' => e = failE tp 4 ∧ Below B w w' := by
  have hx0 := Ext.new w (.cells #[.int .i64 0, .string ⟨#[]⟩, .int .i64 0, .int .i64 0, .slice none 0 0] 28)
  have bR := Lib.hid (Blk.new w 28 #[.int .i64 0, .string ⟨#[]⟩, .int .i64 0, .int .i64 0, .slice none 0 0])
  have HC := parser.peek_c (h.ext hx0)
  have HF := fun m w' => request.fail_c s.hd m w'
  have HB := fun w' => request.begins_c s.hd w'
  have hlt := h.blk.lt
  have hB0 := h.Bs
  have hBg := h.Bg
  have gw1 := h.wr
  have gw2 : IntKind.i64.wrap ((s.n : Int) + 1) = (s.n : Int) + 1 := IntWalk.i64_in _ (by have := h.n30; omega)
  have hS := Lib.hid h
  rw [ht] at HC HF HB
  rw [hb] at HB
  unfold tkv failE at *
  simp only at HC HF HB
  have hc : 4 < lv ∨ (decide (4 < lv) = false ∧ (24 : Int) < (s.n : Int) + 1) := by
    by_cases h1 : 4 < lv
    · exact .inl h1
    · exact .inr ⟨by simpa using h1, by omega⟩
  clear h ht hb hl
  rcases hc with hc | ⟨hc1, hc2⟩
  all_goals
    go_enter Tryd.func35, Tryd.ntmps35
    go_wp2_with (first
      | (go_at_call 63; refine HC.mono ?_; rintro e w1 ⟨rfl, hx1⟩; have hz1 := hx1.size; simp only [World.size_alloc] at hz1; have bT := Lib.hid (Blk.new w1 52 #[.int .i64 tk, .string ⟨tt.toArray⟩, .int .i64 tn, .int .i64 tp])) | (go_at_call 64; refine (HB _).mono ?_; rintro e w3 ⟨rfl, hx3⟩; have hX := hx0.tr (hx1.tr ((Ext.new _ _).tr hx3)); have hS3 := Lib.hid (hS.out.ext hX); obtain ⟨e1, f1, e2, f2, m1⟩ := hS3.out.facts; have bR3 := Lib.hid (bR.out.ext (hx1.tr ((Ext.new _ _).tr hx3))); have bT3 := Lib.hid (bT.out.ext hx3); have t0 := bT3.out.cell 0; have t1 := bT3.out.cell 1; have t2 := bT3.out.cell 2; have t3 := bT3.out.cell 3; have hz3 := bT3.out.lt; clear bR bT)
      | (go_at_call 65; refine (HF _ _).mono ?_; rintro e w4 ⟨rfl, hx4⟩))
    exact ⟨rfl, rfl, below_ext (hS.out.below ((Mv.of_ext hX).tr (hS3.out.node (by omega)).2)) hx4 hB0⟩
/-- behind the beginning of an expression -/
theorem PSt.deep (h : PSt w g B base A c all v k s) (hn : s.n + 1 ≤ 24) (h5 : s.hd.kind ≠ 5) :
    PSt ((w.setCell ⟨g, 2, none⟩ (.int .i64 ((s.n : Int) + 1))).setCell ⟨g, 1, none⟩ (.int .i64 ((k : Int) + 1))) g B base A c all v (k + 1) ⟨s.n + 1, s.l, s.r.tail⟩ ∧ Mv g v v w ((w.setCell ⟨g, 2, none⟩ (.int .i64 ((s.n : Int) + 1))).setCell ⟨g, 1, none⟩ (.int .i64 ((k : Int) + 1))) := by
  obtain ⟨h1, m1⟩ := h.node (by omega)
  obtain ⟨h2, m2⟩ := h1.next h5
  exact ⟨h2, m1.tr m2⟩
theorem SitsF.go {w w' : World} {lo : Nat} {X : List (Option Nat)} {E : Nat → Prop} {A : Option Addr} {xs : List Value} (h : SitsF w lo w.heap.size X A xs) (hc : Rl.Chg E w w') (hE : ∀ b, E b → some b ∈ X ∨ b < lo) : SitsF w' lo w'.heap.size X A xs := fun hn =>
  let ⟨b, o, e, ⟨h1, h2, h3⟩, hcell⟩ := h hn
  ⟨b, o, e, ⟨h1, Nat.lt_of_lt_of_le h2 hc.size, h3⟩, fun j u hu => Rl.Chg.cell hc (hcell j u hu) (fun he => by
    rcases hE b he with h4 | h4
    · exact h3 h4
    · omega)⟩
theorem SitsF.wide {w : World} {lo lo' hi : Nat} {X : List (Option Nat)} {A : Option Addr} {xs : List Value} (h : SitsF w lo hi X A xs) (h1 : lo' ≤ lo) : SitsF w lo' hi X A xs := fun hn =>
  let ⟨b, o, e, ⟨k1, k2, k3⟩, hcell⟩ := h hn
  ⟨b, o, e, ⟨Nat.le_trans h1 k1, k2, k3⟩, hcell⟩
theorem LiPost.er {r : CL.PR (List CL.Ex)} {e : Ending} {w' : World} {p : Int × Int} (h : LiPost w g B base A c all v r e w') (hr : r = .error p) : e = failE p.1 p.2 ∧ Below B w w' := by
  rw [hr] at h; exact h
/-- what a list that was read leaves -/
structure LiOk (w : World) (g B base : Nat) (A : Option Addr) (c : Nat) (all : List CL.Tk) (v : Value) (l : List CL.Ex) (s2 : CL.PS) (w' : World) (A' : Option Addr) (c' : Nat) (v' : Value) (k' : Nat) (vs : List (List Value)) : Prop where
  hc : l.length ≤ c'
  n : l.length ≤ 24
  p : PSt w' g B base A c all v' k' s2
  mv : Mv g v v' w w'
  kids : KidsF w' w.heap.size w'.heap.size [v'.ownBlock] l vs
  row : SitsF w' w.heap.size w'.heap.size [v'.ownBlock] A' vs.flatten
theorem LiPost.ok {r : CL.PR (List CL.Ex)} {e : Ending} {w' : World} {l : List CL.Ex} {s2 : CL.PS} (h : LiPost w g B base A c all v r e w') (hr : r = .ok (l, s2)) : ∃ A' c' v' k' vs, e = .returned (.slice A' l.length c') ∧ LiOk w g B base A c all v l s2 w' A' c' v' k' vs := by
  rw [hr] at h
  obtain ⟨A', c', vs, v', k', h1, h2, h3, h4, h5, h6, h7⟩ := h
  exact ⟨A', c', v', k', vs, h1, h2, h3, h4, h5, h6, h7⟩
/-- the group that is stored in the result's block -/
theorem LiOk.group {w0 w6 : World} {l : List CL.Ex} {s2 : CL.PS} {w5 : World} {A' : Option Addr} {c' : Nat} {v' : Value} {k' : Nat} {vs : List (List Value)} (h : LiOk w g B base A c all v l s2 w5 A' c' v' k' vs) {p : Nat} (hm : Mv g v v w0 w) (hp : w0.heap.size ≤ p) (hpw : p < w.heap.size) (hpg : g ≠ p) (hB : B ≤ p) {T : TypeId} {cs : Array Value} (hb : Blk w5 p T cs) (hT : 25 ≠ T) (ho : Only p w5 w6) (kk : Int) {r : CL.PR CL.Ex} (hr : r = .ok (.mk kk CL.noAt l, s2)) :
    ExPost w0 g B base A c all v r (.returned (.agg #[.int .i64 kk, .string ⟨#[]⟩, .int .i64 0, .int .i64 0, .slice A' l.length c'])) w6 := by
  rw [hr]
  have hn := h.n
  have hcg : Rl.Chg (fun b => b = p) w5 w6 := Rl.Chg.of_grown ho (fun x e => by injection e with e; exact e.symm)
  refine ⟨[.int .i64 kk, .string ⟨#[]⟩, .int .i64 0, .int .i64 0, .slice A' l.length c'], v', k', rfl, h.p.only (own_ne h.p.own hb hT) hpg hB ho, (hm.tr h.mv).only ho hp, ?_⟩
  exact RdF.node (a := CL.noAt) (by simp [CL.noAt, maxLen]) (by simp only [maxLen]; omega) h.hc ((h.kids.go hcg (fun b hb => .inr (by omega)) (fun y hy => .inl hy)).wide hm.chg.size (Nat.le_refl _) (fun _ _ _ h => h)) ((h.row.go hcg (fun b hb => .inr (by omega))).wide hm.chg.size)
set_option maxHeartbeats 3200000 in
theorem parser.expr_all (d : Nat) (lv : Int) (hE : ExC d (lv + 1)) (h : PSt w g B base A c all v k s) {tn tp : Int} (ht : s.hd = ⟨1, CL.wAll, tn, tp⟩) (hl1 : 1 ≤ lv) (hl2 : lv ≤ 4) (hn : s.n + 1 ≤ 24) :
    Calls Tryd.prog 35 #[.pointer (some ⟨g, 0, none⟩), .int .i64 lv] w (ExPost w g B base A c all v (CL.bindP (CL.listP (CL.exprP d) ⟨s.n + 1, s.l, s.r.tail⟩) fun l s2 => .ok (.mk (l.length:Int) CL.noAt l, s2))) := by
  have hk5 : s.hd.kind ≠ 5 := by rw [ht]; exact (by decide : (1 : Int) ≠ 5)
  have hb : CL.beginsT ⟨1, CL.wAll, tn, tp⟩ = true := rfl
  have hx0 := Ext.new w (.cells #[.int .i64 0, .string ⟨#[]⟩, .int .i64 0, .int .i64 0, .slice none 0 0] 28)
  have bR := Lib.hid (Blk.new w 28 #[.int .i64 0, .string ⟨#[]⟩, .int .i64 0, .int .i64 0, .slice none 0 0])
  have HC := parser.peek_c (h.ext hx0)
  have HF := fun m w' => request.fail_c s.hd m w'
  have HB := fun w' => request.begins_c s.hd w'
  have hlt := h.blk.lt
  have hB0 := h.Bs
  have hBg := h.Bg
  have gw1 := h.wr
  have gw2 : IntKind.i64.wrap ((s.n : Int) + 1) = (s.n : Int) + 1 := IntWalk.i64_in _ (by have := h.n30; omega)
  have hS := Lib.hid h
  rw [ht] at HC HF HB
  rw [hb] at HB
  unfold tkv failE at *
  simp only at HC HF HB
  have hd1 : decide (4 < lv) = false := by simp; omega
  have hd2 : decide ((24 : Int) < (s.n : Int) + 1) = false := by simp; omega
  have gw3 : IntKind.i64.wrap (lv + 1) = lv + 1 := IntWalk.i64_in _ (by omega)
  clear h hb ht
  unfold CL.wAll at HC HF HB
  cases hL : CL.listP (CL.exprP d) ⟨s.n + 1, s.l, s.r.tail⟩ with
  | error q =>
    have hL := Lib.hid hL
    go_enter Tryd.func35, Tryd.ntmps35
    go_wp2_with (first
      | (go_at_call 63; refine HC.mono ?_; rintro e w1 ⟨rfl, hx1⟩; have hz1 := hx1.size; simp only [World.size_alloc] at hz1; have bT := Lib.hid (Blk.new w1 52 #[.int .i64 1, .string ⟨(CL.wAll).toArray⟩, .int .i64 tn, .int .i64 tp])) | (go_at_call 64; refine (HB _).mono ?_; rintro e w3 ⟨rfl, hx3⟩; have hX := hx0.tr (hx1.tr ((Ext.new _ _).tr hx3)); have hS3 := Lib.hid (hS.out.ext hX); obtain ⟨e1, f1, e2, f2, m1⟩ := hS3.out.facts; have bR3 := Lib.hid (bR.out.ext (hx1.tr ((Ext.new _ _).tr hx3))); have bT3 := Lib.hid (bT.out.ext hx3); have t0 := bT3.out.cell 0; have t1 := bT3.out.cell 1; have t2 := bT3.out.cell 2; have t3 := bT3.out.cell 3; have hz3 := bT3.out.lt; clear bR bT)
      | (go_at_call 67; have hP := hS3.out.deep hn hk5; refine (parser.list_c d (lv + 1) hE hP.1 hn).mono ?_; intro e w5 hp; obtain ⟨he, hb5⟩ := hp.er hL.out; unfold failE at he; subst he; have hP2 := Lib.hid hP.2; clear hP hp))
    exact ⟨rfl, rfl, (hS.out.below ((Mv.of_ext hX).tr hP2.out)).trans hb5⟩
  | ok z =>
    obtain ⟨l, s2⟩ := z
    have hL := Lib.hid hL
    go_enter Tryd.func35, Tryd.ntmps35
    go_wp2_with (first
      | (go_at_call 63; refine HC.mono ?_; rintro e w1 ⟨rfl, hx1⟩; have hz1 := hx1.size; simp only [World.size_alloc] at hz1; have bT := Lib.hid (Blk.new w1 52 #[.int .i64 1, .string ⟨(CL.wAll).toArray⟩, .int .i64 tn, .int .i64 tp])) | (go_at_call 64; refine (HB _).mono ?_; rintro e w3 ⟨rfl, hx3⟩; have hX := hx0.tr (hx1.tr ((Ext.new _ _).tr hx3)); have hS3 := Lib.hid (hS.out.ext hX); obtain ⟨e1, f1, e2, f2, m1⟩ := hS3.out.facts; have bR3 := Lib.hid (bR.out.ext (hx1.tr ((Ext.new _ _).tr hx3))); have bT3 := Lib.hid (bT.out.ext hx3); have t0 := bT3.out.cell 0; have t1 := bT3.out.cell 1; have t2 := bT3.out.cell 2; have t3 := bT3.out.cell 3; have hz3 := bT3.out.lt; clear bR bT)
      | (go_at_call 67; have hP := hS3.out.deep hn hk5; refine (parser.list_c d (lv + 1) hE hP.1 hn).mono ?_; intro e w5 hp; obtain ⟨A5, c5, v5, k5, vs5, rfl, hok⟩ := hp.ok hL.out; have bR5 := Lib.hid (((bR3.out.mv hP.2 (by omega) (own_ne hS3.out.own bR3.out (by decide)))).mv hok.mv (by omega) (own_ne hP.1.own (bR3.out.mv hP.2 (by omega) (own_ne hS3.out.own bR3.out (by decide))) (by decide))); have hP2 := Lib.hid hP.2; have hok := Lib.hid hok; clear hP hp)
      | (with_reducible refine is_store 28 (.tmp 4) (.tmp 76) rfl ?_; refine wpList_store_blk rfl rfl 28 (.tmp 4) (.tmp 76) rfl w.heap.size #[.int .i64 (l.length:Int), .string ⟨#[]⟩, .int .i64 0, .int .i64 0, .slice A5 l.length c5] rfl rfl _ _ bR5.out 5 ex_isz rfl rfl (by simp [Value.oneCell']) ?_; intro w6 hB6 ho6; have r0 := hB6.cell 0; have r1 := hB6.cell 1; have r2 := hB6.cell 2; have r3 := hB6.cell 3; have r4 := hB6.cell 4; clear hB6))
    refine bodyPost_ret (by simp [results, Tryd.results35, go_sem, r0, r1, r2, r3, r4]; try rfl) rfl ?_
    exact hok.out.group ((Mv.of_ext hX).tr hP2.out) (Nat.le_refl _) (Nat.lt_of_lt_of_le bR3.out.lt hP2.out.chg.size) (by omega) hB0 bR5.out (by decide) ho6 (l.length:Int) rfl
set_option maxHeartbeats 3200000 in
theorem parser.expr_any (d : Nat) (lv : Int) (hE : ExC d (lv + 1)) (h : PSt w g B base A c all v k s) {tn tp : Int} (ht : s.hd = ⟨1, CL.wAny, tn, tp⟩) (hl1 : 1 ≤ lv) (hl2 : lv ≤ 4) (hn : s.n + 1 ≤ 24) :
    Calls Tryd.prog 35 #[.pointer (some ⟨g, 0, none⟩), .int .i64 lv] w (ExPost w g B base A c all v (CL.bindP (CL.listP (CL.exprP d) ⟨s.n + 1, s.l, s.r.tail⟩) fun l s2 => .ok (.mk 1 CL.noAt l, s2))) := by
  have hk5 : s.hd.kind ≠ 5 := by rw [ht]; exact (by decide : (1 : Int) ≠ 5)
  have hb : CL.beginsT ⟨1, CL.wAny, tn, tp⟩ = true := rfl
  have hx0 := Ext.new w (.cells #[.int .i64 0, .string ⟨#[]⟩, .int .i64 0, .int .i64 0, .slice none 0 0] 28)
  have bR := Lib.hid (Blk.new w 28 #[.int .i64 0, .string ⟨#[]⟩, .int .i64 0, .int .i64 0, .slice none 0 0])
  have HC := parser.peek_c (h.ext hx0)
  have HF := fun m w' => request.fail_c s.hd m w'
  have HB := fun w' => request.begins_c s.hd w'
  have hlt := h.blk.lt
  have hB0 := h.Bs
  have hBg := h.Bg
  have gw1 := h.wr
  have gw2 : IntKind.i64.wrap ((s.n : Int) + 1) = (s.n : Int) + 1 := IntWalk.i64_in _ (by have := h.n30; omega)
  have hS := Lib.hid h
  rw [ht] at HC HF HB
  rw [hb] at HB
  unfold tkv failE at *
  simp only at HC HF HB
  have hd1 : decide (4 < lv) = false := by simp; omega
  have hd2 : decide ((24 : Int) < (s.n : Int) + 1) = false := by simp; omega
  have gw3 : IntKind.i64.wrap (lv + 1) = lv + 1 := IntWalk.i64_in _ (by omega)
  clear h hb ht
  unfold CL.wAny at HC HF HB
  cases hL : CL.listP (CL.exprP d) ⟨s.n + 1, s.l, s.r.tail⟩ with
  | error q =>
    have hL := Lib.hid hL
    go_enter Tryd.func35, Tryd.ntmps35
    go_wp2_with (first
      | (go_at_call 63; refine HC.mono ?_; rintro e w1 ⟨rfl, hx1⟩; have hz1 := hx1.size; simp only [World.size_alloc] at hz1; have bT := Lib.hid (Blk.new w1 52 #[.int .i64 1, .string ⟨(CL.wAny).toArray⟩, .int .i64 tn, .int .i64 tp])) | (go_at_call 64; refine (HB _).mono ?_; rintro e w3 ⟨rfl, hx3⟩; have hX := hx0.tr (hx1.tr ((Ext.new _ _).tr hx3)); have hS3 := Lib.hid (hS.out.ext hX); obtain ⟨e1, f1, e2, f2, m1⟩ := hS3.out.facts; have bR3 := Lib.hid (bR.out.ext (hx1.tr ((Ext.new _ _).tr hx3))); have bT3 := Lib.hid (bT.out.ext hx3); have t0 := bT3.out.cell 0; have t1 := bT3.out.cell 1; have t2 := bT3.out.cell 2; have t3 := bT3.out.cell 3; have hz3 := bT3.out.lt; clear bR bT)
      | (go_at_call 67; have hP := hS3.out.deep hn hk5; refine (parser.list_c d (lv + 1) hE hP.1 hn).mono ?_; intro e w5 hp; obtain ⟨he, hb5⟩ := hp.er hL.out; unfold failE at he; subst he; have hP2 := Lib.hid hP.2; clear hP hp))
    exact ⟨rfl, rfl, (hS.out.below ((Mv.of_ext hX).tr hP2.out)).trans hb5⟩
  | ok z =>
    obtain ⟨l, s2⟩ := z
    have hL := Lib.hid hL
    go_enter Tryd.func35, Tryd.ntmps35
    go_wp2_with (first
      | (go_at_call 63; refine HC.mono ?_; rintro e w1 ⟨rfl, hx1⟩; have hz1 := hx1.size; simp only [World.size_alloc] at hz1; have bT := Lib.hid (Blk.new w1 52 #[.int .i64 1, .string ⟨(CL.wAny).toArray⟩, .int .i64 tn, .int .i64 tp])) | (go_at_call 64; refine (HB _).mono ?_; rintro e w3 ⟨rfl, hx3⟩; have hX := hx0.tr (hx1.tr ((Ext.new _ _).tr hx3)); have hS3 := Lib.hid (hS.out.ext hX); obtain ⟨e1, f1, e2, f2, m1⟩ := hS3.out.facts; have bR3 := Lib.hid (bR.out.ext (hx1.tr ((Ext.new _ _).tr hx3))); have bT3 := Lib.hid (bT.out.ext hx3); have t0 := bT3.out.cell 0; have t1 := bT3.out.cell 1; have t2 := bT3.out.cell 2; have t3 := bT3.out.cell 3; have hz3 := bT3.out.lt; clear bR bT)
      | (go_at_call 67; have hP := hS3.out.deep hn hk5; refine (parser.list_c d (lv + 1) hE hP.1 hn).mono ?_; intro e w5 hp; obtain ⟨A5, c5, v5, k5, vs5, rfl, hok⟩ := hp.ok hL.out; have bR5 := Lib.hid (((bR3.out.mv hP.2 (by omega) (own_ne hS3.out.own bR3.out (by decide)))).mv hok.mv (by omega) (own_ne hP.1.own (bR3.out.mv hP.2 (by omega) (own_ne hS3.out.own bR3.out (by decide))) (by decide))); have hP2 := Lib.hid hP.2; have hok := Lib.hid hok; clear hP hp)
      | (with_reducible refine is_store 28 (.tmp 4) (.tmp 83) rfl ?_; refine wpList_store_blk rfl rfl 28 (.tmp 4) (.tmp 83) rfl w.heap.size #[.int .i64 1, .string ⟨#[]⟩, .int .i64 0, .int .i64 0, .slice A5 l.length c5] rfl rfl _ _ bR5.out 5 ex_isz rfl rfl (by simp [Value.oneCell']) ?_; intro w6 hB6 ho6; have r0 := hB6.cell 0; have r1 := hB6.cell 1; have r2 := hB6.cell 2; have r3 := hB6.cell 3; have r4 := hB6.cell 4; clear hB6))
    refine bodyPost_ret (by simp [results, Tryd.results35, go_sem, r0, r1, r2, r3, r4]; try rfl) rfl ?_
    exact hok.out.group ((Mv.of_ext hX).tr hP2.out) (Nat.le_refl _) (Nat.lt_of_lt_of_le bR3.out.lt hP2.out.chg.size) (by omega) hB0 bR5.out (by decide) ho6 1 rfl
theorem Blk.mv' {w' : World} {p : Nat} {v' : Value} {T : TypeId} {cs : Array Value} (h : Blk w p T cs) (hp : PSt w g B base A c all v k s) (hT : 25 ≠ T) (hpg : p ≠ g) (hm : Mv g v v' w w') : Blk w' p T cs := h.mv hm hpg (own_ne hp.own h hT)
/-- what is done behind the word 'of' -/
def numP (d : Nat) (tn tp : Int) (s : CL.PS) : CL.PR CL.Ex := CL.bindP (CL.expectP 1 CL.wOf s) fun _ s1 => CL.bindP (CL.listP (CL.exprP d) s1) fun l s2 => if tn < 1 ∨ (l.length : Int) < tn then .error (tp, 1) else .ok (.mk tn CL.noAt l, s2)
set_option maxHeartbeats 3200000 in
theorem parser.expr_num (d : Nat) (lv : Int) (hE : ExC d (lv + 1)) (h : PSt w g B base A c all v k s) {tn tp : Int} {tt : List UInt8} (ht : s.hd = ⟨3, tt, tn, tp⟩) (hl1 : 1 ≤ lv) (hl2 : lv ≤ 4) (hn : s.n + 1 ≤ 24) :
    Calls Tryd.prog 35 #[.pointer (some ⟨g, 0, none⟩), .int .i64 lv] w (ExPost w g B base A c all v (numP d tn tp ⟨s.n + 1, s.l, s.r.tail⟩)) := by
  have hk5 : s.hd.kind ≠ 5 := by rw [ht]; exact (by decide : (3 : Int) ≠ 5)
  have hb : CL.beginsT ⟨3, tt, tn, tp⟩ = true := by simp [CL.beginsT]
  have hx0 := Ext.new w (.cells #[.int .i64 0, .string ⟨#[]⟩, .int .i64 0, .int .i64 0, .slice none 0 0] 28)
  have bR := Lib.hid (Blk.new w 28 #[.int .i64 0, .string ⟨#[]⟩, .int .i64 0, .int .i64 0, .slice none 0 0])
  have HC := parser.peek_c (h.ext hx0)
  have HF := fun m w' => request.fail_c s.hd m w'
  have HB := fun w' => request.begins_c s.hd w'
  have hlt := h.blk.lt
  have hB0 := h.Bs
  have hBg := h.Bg
  have gw1 := h.wr
  have gw2 : IntKind.i64.wrap ((s.n : Int) + 1) = (s.n : Int) + 1 := IntWalk.i64_in _ (by have := h.n30; omega)
  have hS := Lib.hid h
  rw [ht] at HC HF HB
  rw [hb] at HB
  unfold tkv failE at *
  simp only at HC HF HB
  have hd1 : decide (4 < lv) = false := by simp; omega
  have hd2 : decide ((24 : Int) < (s.n : Int) + 1) = false := by simp; omega
  have gw3 : IntKind.i64.wrap (lv + 1) = lv + 1 := IntWalk.i64_in _ (by omega)
  clear h hb ht
  cases hs : CL.sees 1 CL.wOf ⟨s.n + 1, s.l, s.r.tail⟩ with
  | false =>
    have HR : numP d tn tp ⟨s.n + 1, s.l, s.r.tail⟩ = .error ((⟨s.n + 1, s.l, s.r.tail⟩ : CL.PS).hd.pos, 8) := by unfold numP CL.expectP; rw [hs]; rfl
    rw [HR]
    clear HR
    have hs := Lib.hid hs
    go_enter Tryd.func35, Tryd.ntmps35
    go_wp2_with (first
      | (go_at_call 63; refine HC.mono ?_; rintro e w1 ⟨rfl, hx1⟩; have hz1 := hx1.size; simp only [World.size_alloc] at hz1; have bT := Lib.hid (Blk.new w1 52 #[.int .i64 3, .string ⟨tt.toArray⟩, .int .i64 tn, .int .i64 tp])) | (go_at_call 64; refine (HB _).mono ?_; rintro e w3 ⟨rfl, hx3⟩; have hX := hx0.tr (hx1.tr ((Ext.new _ _).tr hx3)); have hS3 := Lib.hid (hS.out.ext hX); obtain ⟨e1, f1, e2, f2, m1⟩ := hS3.out.facts; have bR3 := Lib.hid (bR.out.ext (hx1.tr ((Ext.new _ _).tr hx3))); have bT3 := Lib.hid (bT.out.ext hx3); have t0 := bT3.out.cell 0; have t1 := bT3.out.cell 1; have t2 := bT3.out.cell 2; have t3 := bT3.out.cell 3; have hz3 := bT3.out.lt; clear bR bT)
      | (go_at_call 66; have hP := hS3.out.deep hn hk5; have hQ := parser.expect_er hP.1 1 CL.wOf hs.out; unfold CL.wOf at hQ; refine hQ.mono ?_; unfold failE; rintro e w4 ⟨rfl, hx4⟩; have hP2 := Lib.hid hP.2; clear hP hQ))
    exact ⟨rfl, rfl, below_ext (hS.out.below ((Mv.of_ext hX).tr hP2.out)) hx4 hB0⟩
  | true =>
    have HR : numP d tn tp ⟨s.n + 1, s.l, s.r.tail⟩ = CL.bindP (CL.listP (CL.exprP d) (⟨s.n + 1, s.l, s.r.tail⟩ : CL.PS).next) fun l s2 => if tn < 1 ∨ (l.length : Int) < tn then .error (tp, 1) else .ok (.mk tn CL.noAt l, s2) := by unfold numP CL.expectP; rw [hs]; rfl
    have hs := Lib.hid hs
    cases hL : CL.listP (CL.exprP d) (⟨s.n + 1, s.l, s.r.tail⟩ : CL.PS).next with
    | error q =>
      have HR2 : numP d tn tp ⟨s.n + 1, s.l, s.r.tail⟩ = .error q := by rw [HR, hL]; rfl
      rw [HR2]
      clear HR HR2
      have hL := Lib.hid hL
      go_enter Tryd.func35, Tryd.ntmps35
      go_wp2_with (first
        | (go_at_call 63; refine HC.mono ?_; rintro e w1 ⟨rfl, hx1⟩; have hz1 := hx1.size; simp only [World.size_alloc] at hz1; have bT := Lib.hid (Blk.new w1 52 #[.int .i64 3, .string ⟨tt.toArray⟩, .int .i64 tn, .int .i64 tp])) | (go_at_call 64; refine (HB _).mono ?_; rintro e w3 ⟨rfl, hx3⟩; have hX := hx0.tr (hx1.tr ((Ext.new _ _).tr hx3)); have hS3 := Lib.hid (hS.out.ext hX); obtain ⟨e1, f1, e2, f2, m1⟩ := hS3.out.facts; have bR3 := Lib.hid (bR.out.ext (hx1.tr ((Ext.new _ _).tr hx3))); have bT3 := Lib.hid (bT.out.ext hx3); have t0 := bT3.out.cell 0; have t1 := bT3.out.cell 1; have t2 := bT3.out.cell 2; have t3 := bT3.out.cell 3; have hz3 := bT3.out.lt; clear bR bT)
        | (go_at_call 66; have hP := hS3.out.deep hn hk5; have hQ := parser.expect_ok hP.1 1 CL.wOf hs.out (by decide); unfold CL.wOf at hQ; refine hQ.mono ?_; rintro e w4 ⟨rfl, hp4, hm4⟩; have bR4 := Lib.hid ((bR3.out.mv' hS3.out (by decide) (by omega) hP.2).mv' hP.1 (by decide) (by omega) hm4); have bT4 := Lib.hid ((bT3.out.mv' hS3.out (by decide) (by omega) hP.2).mv' hP.1 (by decide) (by omega) hm4); have hm4 := Lib.hid (hP.2.tr hm4); have hp4 := Lib.hid hp4; clear hP hQ)
        | (go_at_call 67; refine (parser.list_c d (lv + 1) hE hp4.out hn).mono ?_; intro e w5 hp; obtain ⟨he, hb5⟩ := hp.er hL.out; unfold failE at he; subst he; clear hp))
      exact ⟨rfl, rfl, (hS.out.below ((Mv.of_ext hX).tr hm4.out)).trans hb5⟩
    | ok z =>
      obtain ⟨l, s2⟩ := z
      have HR2 : numP d tn tp ⟨s.n + 1, s.l, s.r.tail⟩ = if tn < 1 ∨ (l.length : Int) < tn then .error (tp, 1) else .ok (.mk tn CL.noAt l, s2) := by rw [HR, hL]; rfl
      have hL := Lib.hid hL
      by_cases hbad : tn < 1 ∨ (l.length : Int) < tn
      · rw [if_pos hbad] at HR2
        rw [HR2]
        have hc : tn < 1 ∨ (decide (tn < 1) = false ∧ (l.length : Int) < tn) := by
          by_cases h1 : tn < 1
          · exact .inl h1
          · exact .inr ⟨by simpa using h1, by omega⟩
        clear HR HR2 hbad
        rcases hc with hc | ⟨hc1, hc2⟩
        all_goals
          go_enter Tryd.func35, Tryd.ntmps35
          go_wp2_with (first
            | (go_at_call 63; refine HC.mono ?_; rintro e w1 ⟨rfl, hx1⟩; have hz1 := hx1.size; simp only [World.size_alloc] at hz1; have bT := Lib.hid (Blk.new w1 52 #[.int .i64 3, .string ⟨tt.toArray⟩, .int .i64 tn, .int .i64 tp])) | (go_at_call 64; refine (HB _).mono ?_; rintro e w3 ⟨rfl, hx3⟩; have hX := hx0.tr (hx1.tr ((Ext.new _ _).tr hx3)); have hS3 := Lib.hid (hS.out.ext hX); obtain ⟨e1, f1, e2, f2, m1⟩ := hS3.out.facts; have bR3 := Lib.hid (bR.out.ext (hx1.tr ((Ext.new _ _).tr hx3))); have bT3 := Lib.hid (bT.out.ext hx3); have t0 := bT3.out.cell 0; have t1 := bT3.out.cell 1; have t2 := bT3.out.cell 2; have t3 := bT3.out.cell 3; have hz3 := bT3.out.lt; clear bR bT)
            | (go_at_call 66; have hP := hS3.out.deep hn hk5; have hQ := parser.expect_ok hP.1 1 CL.wOf hs.out (by decide); unfold CL.wOf at hQ; refine hQ.mono ?_; rintro e w4 ⟨rfl, hp4, hm4⟩; have bR4 := Lib.hid ((bR3.out.mv' hS3.out (by decide) (by omega) hP.2).mv' hP.1 (by decide) (by omega) hm4); have bT4 := Lib.hid ((bT3.out.mv' hS3.out (by decide) (by omega) hP.2).mv' hP.1 (by decide) (by omega) hm4); have hm4 := Lib.hid (hP.2.tr hm4); have hp4 := Lib.hid hp4; clear hP hQ)
            | (go_at_call 67; refine (parser.list_c d (lv + 1) hE hp4.out hn).mono ?_; intro e w5 hp; obtain ⟨A5, c5, v5, k5, vs5, rfl, hok⟩ := hp.ok hL.out; obtain ⟨⟨t0, t1, t2, t3⟩, _⟩ := (bT4.out.mv' hp4.out (by decide) (by omega) hok.mv).c4; have hM5 := Lib.hid (hm4.out.tr hok.mv); clear hp hok)
            | (go_at_call 65; refine (HF _ _).mono ?_; rintro e w6 ⟨rfl, hx6⟩))
          exact ⟨rfl, rfl, below_ext (hS.out.below ((Mv.of_ext hX).tr hM5.out)) hx6 hB0⟩
      · rw [if_neg hbad] at HR2
        rw [HR2]
        have hc1 : decide (tn < 1) = false := by simp; omega
        have hc2 : decide ((l.length : Int) < tn) = false := by simp; omega
        clear HR HR2 hbad
        go_enter Tryd.func35, Tryd.ntmps35
        go_wp2_with (first
          | (go_at_call 63; refine HC.mono ?_; rintro e w1 ⟨rfl, hx1⟩; have hz1 := hx1.size; simp only [World.size_alloc] at hz1; have bT := Lib.hid (Blk.new w1 52 #[.int .i64 3, .string ⟨tt.toArray⟩, .int .i64 tn, .int .i64 tp])) | (go_at_call 64; refine (HB _).mono ?_; rintro e w3 ⟨rfl, hx3⟩; have hX := hx0.tr (hx1.tr ((Ext.new _ _).tr hx3)); have hS3 := Lib.hid (hS.out.ext hX); obtain ⟨e1, f1, e2, f2, m1⟩ := hS3.out.facts; have bR3 := Lib.hid (bR.out.ext (hx1.tr ((Ext.new _ _).tr hx3))); have bT3 := Lib.hid (bT.out.ext hx3); have t0 := bT3.out.cell 0; have t1 := bT3.out.cell 1; have t2 := bT3.out.cell 2; have t3 := bT3.out.cell 3; have hz3 := bT3.out.lt; clear bR bT)
          | (go_at_call 66; have hP := hS3.out.deep hn hk5; have hQ := parser.expect_ok hP.1 1 CL.wOf hs.out (by decide); unfold CL.wOf at hQ; refine hQ.mono ?_; rintro e w4 ⟨rfl, hp4, hm4⟩; have bR4 := Lib.hid ((bR3.out.mv' hS3.out (by decide) (by omega) hP.2).mv' hP.1 (by decide) (by omega) hm4); have bT4 := Lib.hid ((bT3.out.mv' hS3.out (by decide) (by omega) hP.2).mv' hP.1 (by decide) (by omega) hm4); have hm4 := Lib.hid (hP.2.tr hm4); have hp4 := Lib.hid hp4; clear hP hQ)
          | (go_at_call 67; refine (parser.list_c d (lv + 1) hE hp4.out hn).mono ?_; intro e w5 hp; obtain ⟨A5, c5, v5, k5, vs5, rfl, hok⟩ := hp.ok hL.out; obtain ⟨⟨t0, t1, t2, t3⟩, _⟩ := (bT4.out.mv' hp4.out (by decide) (by omega) hok.mv).c4; have bR5 := Lib.hid (bR4.out.mv' hp4.out (by decide) (by omega) hok.mv); have hok := Lib.hid hok; clear hp)
          | (with_reducible refine is_store 28 (.tmp 4) (.tmp 64) rfl ?_; refine wpList_store_blk rfl rfl 28 (.tmp 4) (.tmp 64) rfl w.heap.size #[.int .i64 tn, .string ⟨#[]⟩, .int .i64 0, .int .i64 0, .slice A5 l.length c5] rfl rfl _ _ bR5.out 5 ex_isz rfl rfl (by simp [Value.oneCell']) ?_; intro w6 hB6 ho6; have r0 := hB6.cell 0; have r1 := hB6.cell 1; have r2 := hB6.cell 2; have r3 := hB6.cell 3; have r4 := hB6.cell 4; clear hB6))
        refine bodyPost_ret (by simp [results, Tryd.results35, go_sem, r0, r1, r2, r3, r4]; try rfl) rfl ?_
        exact hok.out.group ((Mv.of_ext hX).tr hm4.out) (Nat.le_refl _) (Nat.lt_of_lt_of_le bR3.out.lt hm4.out.chg.size) (by omega) hB0 bR5.out (by decide) ho6 tn rfl
set_option maxHeartbeats 3200000 in
theorem parser.expr_atom (lv : Int) (h : PSt w g B base A c all v k s) {tn tp : Int} {tt : List UInt8} (ht : s.hd = ⟨1, tt, tn, tp⟩) (hr : CL.rsv tt = false) (hl1 : 1 ≤ lv) (hl2 : lv ≤ 4) (hn : s.n + 1 ≤ 24) (htl : tt.length ≤ maxLen) :
    Calls Tryd.prog 35 #[.pointer (some ⟨g, 0, none⟩), .int .i64 lv] w (ExPost w g B base A c all v (CL.atomP ⟨1, tt, tn, tp⟩ ⟨s.n + 1, s.l, s.r.tail⟩)) := by
  have hk5 : s.hd.kind ≠ 5 := by rw [ht]; exact (by decide : (1 : Int) ≠ 5)
  have hb : CL.beginsT ⟨1, tt, tn, tp⟩ = true := by simp [CL.beginsT, hr]
  have hq1 : (tt == [97, 108, 108]) = false := by simp only [CL.rsv, decide_eq_false_iff_not, not_or] at hr; simpa using hr.1
  have hq2 : (tt == [97, 110, 121]) = false := by simp only [CL.rsv, decide_eq_false_iff_not, not_or] at hr; simpa using hr.2.1
  have hx0 := Ext.new w (.cells #[.int .i64 0, .string ⟨#[]⟩, .int .i64 0, .int .i64 0, .slice none 0 0] 28)
  have bR := Lib.hid (Blk.new w 28 #[.int .i64 0, .string ⟨#[]⟩, .int .i64 0, .int .i64 0, .slice none 0 0])
  have HC := parser.peek_c (h.ext hx0)
  have HF := fun m w' => request.fail_c s.hd m w'
  have HB := fun w' => request.begins_c s.hd w'
  have hlt := h.blk.lt
  have hB0 := h.Bs
  have hBg := h.Bg
  have gw1 := h.wr
  have gw2 : IntKind.i64.wrap ((s.n : Int) + 1) = (s.n : Int) + 1 := IntWalk.i64_in _ (by have := h.n30; omega)
  have hS := Lib.hid h
  rw [ht] at HC HF HB
  rw [hb] at HB
  unfold tkv failE at *
  simp only at HC HF HB
  have hd1 : decide (4 < lv) = false := by simp; omega
  have hd2 : decide ((24 : Int) < (s.n : Int) + 1) = false := by simp; omega
  clear h hb ht hr
  cases hL : CL.atomP ⟨1, tt, tn, tp⟩ ⟨s.n + 1, s.l, s.r.tail⟩ with
  | error q =>
    have hL := Lib.hid hL
    go_enter Tryd.func35, Tryd.ntmps35
    go_wp2_with (first
      | (go_at_call 63; refine HC.mono ?_; rintro e w1 ⟨rfl, hx1⟩; have hz1 := hx1.size; simp only [World.size_alloc] at hz1; have bT := Lib.hid (Blk.new w1 52 #[.int .i64 1, .string ⟨tt.toArray⟩, .int .i64 tn, .int .i64 tp])) | (go_at_call 64; refine (HB _).mono ?_; rintro e w3 ⟨rfl, hx3⟩; have hX := hx0.tr (hx1.tr ((Ext.new _ _).tr hx3)); have hS3 := Lib.hid (hS.out.ext hX); obtain ⟨e1, f1, e2, f2, m1⟩ := hS3.out.facts; have bR3 := Lib.hid (bR.out.ext (hx1.tr ((Ext.new _ _).tr hx3))); have bT3 := Lib.hid (bT.out.ext hx3); have t0 := bT3.out.cell 0; have t1 := bT3.out.cell 1; have t2 := bT3.out.cell 2; have t3 := bT3.out.cell 3; have hz3 := bT3.out.lt; clear bR bT)
      | (go_at_call 68; have hP := hS3.out.deep hn hk5; have hQ := parser.atom_c hP.1 ⟨1, tt, tn, tp⟩ htl; unfold tkv at hQ; refine hQ.mono ?_; intro e w5 hp; obtain ⟨he, hb5⟩ := hp.er hL.out; unfold failE at he; subst he; have hP2 := Lib.hid hP.2; clear hP hp hQ))
    exact ⟨rfl, rfl, (hS.out.below ((Mv.of_ext hX).tr hP2.out)).trans hb5⟩
  | ok z =>
    obtain ⟨x, s2⟩ := z
    have hL := Lib.hid hL
    go_enter Tryd.func35, Tryd.ntmps35
    go_wp2_with (first
      | (go_at_call 63; refine HC.mono ?_; rintro e w1 ⟨rfl, hx1⟩; have hz1 := hx1.size; simp only [World.size_alloc] at hz1; have bT := Lib.hid (Blk.new w1 52 #[.int .i64 1, .string ⟨tt.toArray⟩, .int .i64 tn, .int .i64 tp])) | (go_at_call 64; refine (HB _).mono ?_; rintro e w3 ⟨rfl, hx3⟩; have hX := hx0.tr (hx1.tr ((Ext.new _ _).tr hx3)); have hS3 := Lib.hid (hS.out.ext hX); obtain ⟨e1, f1, e2, f2, m1⟩ := hS3.out.facts; have bR3 := Lib.hid (bR.out.ext (hx1.tr ((Ext.new _ _).tr hx3))); have bT3 := Lib.hid (bT.out.ext hx3); have t0 := bT3.out.cell 0; have t1 := bT3.out.cell 1; have t2 := bT3.out.cell 2; have t3 := bT3.out.cell 3; have hz3 := bT3.out.lt; clear bR bT)
      | (go_at_call 68; have hP := hS3.out.deep hn hk5; have hQ := parser.atom_c hP.1 ⟨1, tt, tn, tp⟩ htl; unfold tkv at hQ; refine hQ.mono ?_; intro e w5 hp; obtain ⟨i5, n5, m5, u5, A5, l5, c5, v5, k5, rfl, hp5, hm5, hrd5⟩ := hp.ok hL.out; have bR5 := Lib.hid ((bR3.out.mv' hS3.out (by decide) (by omega) hP.2).mv' hP.1 (by decide) (by omega) hm5); have hP2 := Lib.hid hP.2; have hp5 := Lib.hid hp5; have hm5 := Lib.hid hm5; have hrd5 := Lib.hid hrd5; clear hP hp hQ)
      | (with_reducible refine is_store 28 (.tmp 4) (.tmp 86) rfl ?_; refine wpList_store_blk rfl rfl 28 (.tmp 4) (.tmp 86) rfl w.heap.size #[.int .i64 i5, .string n5, .int .i64 m5, .int .i64 u5, .slice A5 l5 c5] rfl rfl _ _ bR5.out 5 ex_isz rfl rfl (by simp [Value.oneCell']) ?_; intro w6 hB6 ho6; have r0 := hB6.cell 0; have r1 := hB6.cell 1; have r2 := hB6.cell 2; have r3 := hB6.cell 3; have r4 := hB6.cell 4; clear hB6))
    refine bodyPost_ret (by simp [results, Tryd.results35, go_sem, r0, r1, r2, r3, r4]; try rfl) rfl ?_
    have hpz : w.heap.size < ((w3.setCell ⟨g, 2, none⟩ (.int .i64 ((s.n : Int) + 1))).setCell ⟨g, 1, none⟩ (.int .i64 ((k : Int) + 1))).heap.size := Nat.lt_of_lt_of_le bR3.out.lt hP2.out.chg.size
    have hcg : Rl.Chg (fun b => b = w.heap.size) w5 w6 := Rl.Chg.of_grown ho6 (fun x e => by injection e with e; exact e.symm)
    refine ⟨[.int .i64 i5, .string n5, .int .i64 m5, .int .i64 u5, .slice A5 l5 c5], v5, k5, rfl, hp5.out.only (own_ne hp5.out.own bR5.out (by decide)) (by omega) hB0 ho6, (((Mv.of_ext hX).tr hP2.out).tr hm5.out).only ho6 (Nat.le_refl _), ?_⟩
    exact (hrd5.out.go hcg (fun b hb => .inr (by omega)) (fun y hy => .inl hy)).wide (by omega) (Nat.le_refl _) (fun _ _ _ h => h)
/-- expr, at every level -/
theorem parser.expr_c : ∀ (d : Nat) (lv : Int), lv = 5 - d → 1 ≤ lv → ExC d lv
  | 0, lv, hlv, h1 => by
    intro w g B base A c all v k s h hn
    obtain ⟨tk, tt, tn, tp, htt⟩ : ∃ tk tt tn tp, s.hd = (⟨tk, tt, tn, tp⟩ : CL.Tk) := ⟨_, _, _, _, rfl⟩
    unfold CL.exprP
    rw [htt]
    cases hb : CL.beginsT ⟨tk, tt, tn, tp⟩ with
    | false => exact (parser.expr_bad h lv htt hb).mono fun e w' he => ExPost.err rfl he
    | true => exact (parser.expr_deep h lv htt hb hn (.inl (by omega))).mono fun e w' he => ExPost.err rfl he
  | d + 1, lv, hlv, h1 => by
    intro w g B base A c all v k s h hn
    have hE := parser.expr_c d (lv + 1) (by omega) (by omega)
    obtain ⟨tk, tt, tn, tp, htt⟩ : ∃ tk tt tn tp, s.hd = (⟨tk, tt, tn, tp⟩ : CL.Tk) := ⟨_, _, _, _, rfl⟩
    unfold CL.exprP
    rw [htt]
    cases hb : CL.beginsT ⟨tk, tt, tn, tp⟩ with
    | false => exact (parser.expr_bad h lv htt hb).mono fun e w' he => ExPost.err rfl he
    | true =>
      simp only [Bool.true_eq_false, if_false]
      by_cases hc : 24 < s.n + 1
      · rw [if_pos hc]; exact (parser.expr_deep h lv htt hb hn (.inr hc)).mono fun e w' he => ExPost.err rfl he
      · rw [if_neg hc]
        by_cases h3 : tk = 3
        · subst h3; rw [if_pos rfl]; exact parser.expr_num d lv hE h htt h1 (by omega) (by omega)
        · rw [if_neg h3]
          have hk1 : tk = 1 ∧ (tt = CL.wAll ∨ tt = CL.wAny ∨ CL.rsv tt = false) := by
            simp only [CL.beginsT, decide_eq_true_eq] at hb
            rcases hb with hb | hb
            · exact absurd hb h3
            · exact hb
          obtain ⟨rfl, hk⟩ := hk1
          by_cases ha : tt = CL.wAll
          · subst ha; rw [if_pos rfl]; exact parser.expr_all d lv hE h htt h1 (by omega) (by omega)
          · rw [if_neg ha]
            by_cases hy : tt = CL.wAny
            · subst hy; rw [if_pos rfl]; exact parser.expr_any d lv hE h htt h1 (by omega) (by omega)
            · rw [if_neg hy]
              have hr : CL.rsv tt = false := by rcases hk with hk | hk | hk; exact absurd hk ha; exact absurd hk hy; exact hk
              have hok := h.ok (all[k]'h.hk) (List.getElem_mem _)
              rw [← h.hd, htt] at hok
              obtain ⟨_, r, e1, e2, _⟩ := hok.1 rfl
              exact parser.expr_atom lv h htt hr h1 (by omega) (by omega) (by simp only at e1; rw [e1]; simp only [List.length_cons, maxLen]; omega)
end Go.Proofs.YtlfnpkjfnafeaaaDoor
/- The walks of the program's parser, seventh part: Parse, its deferred function. -/
namespace Go.Proofs.YtlfnpkjfnafeaaaDoor
open Go.RowKit
set_option linter.unusedVariables false
set_option maxRecDepth 100000
/-- a struct or a cell is stored into a block that is known whole, in a region that draws its order -/
theorem step_store_blk {P : Program} {ops : Array Oper} {o : Oper} {a : Act} {W : World} {K : Act → World → Prop} {Q : Exit → Act → World → Prop} {E : Prop} (hgd : o.guard = none) (hd : o.dst = none) (ty : TypeId) (x y : Operand) (ho : o.op = .store ty x y) (g : Nat) (cells : Array Value) (hx : a.eval x = .pointer (some ⟨g, 0, none⟩)) (hy : a.eval y = .agg cells) (t : TypeId) (old : Array Value) (hb : Blk W g t old)
    (n : Nat) (hi : (P.info? ty).map (·.size) = some n) (hn : cells.size = n) (hold : old.size = n) (h1 : cells.all (·.oneCell') = true) (h : ∀ w3, Blk w3 g t cells → Only g W w3 → K a w3) : if Region.wanted o (yielded ops a.tmps) = true then Oper.wp P o a W K Q else E := by
  have hw : Region.wanted o (yielded ops a.tmps) = true := by simp [Region.wanted, hgd]
  rw [if_pos hw]
  refine wp_store_row ty x y ho g cells hx hy t old hb (by rw [hn]; exact hi) (by rw [hn]; exact hold) h1 ?_
  rw [hd]
  refine h _ ?_ ?_
  · unfold Blk at *
    simp [World.setRow, Array.getElem?_modify, hb]
  · refine ⟨rfl, rfl, rfl, by simp [World.setRow], fun k hk hne => ?_⟩
    have : g ≠ k := fun e => hne (by rw [e])
    simp [World.setRow, Array.getElem?_modify, this]
theorem wp_tmps {P : Program} {c : Code} {Q : Exit → Act → World → Prop} {T T' : Array Value} {W : World} (h : T = T') (k : Code.wp P c Q { tmps := T', defers := [] } W) : Code.wp P c Q { tmps := T, defers := [] } W := by rw [h]; exact k
theorem rq_isz : (Tryd.prog.info? 30).map (·.size) = some 7 := by kernel_rfl
theorem as_nil (W : World) : (Instr.typeAssert .nilIface 20 66 true).run Tryd.prog W = .ok (.tuple #[.agg #[.int .i64 0, .int .i64 0], .bool false]) W := by kernel_rfl
theorem as_fail (v : Value) (W : World) : (Instr.typeAssert (.iface 66 v) 20 66 true).run Tryd.prog W = .ok (.tuple #[v, .bool true]) W := by kernel_rfl
theorem catch_idle (p q r : Addr) (w : World) :
    CallsD Tryd.prog 34 #[.pointer (some p), .pointer (some q), .pointer (some r)] .returning w fun e u' w' => e = .returned (.tuple #[]) ∧ u' = .returning ∧ Ext w w' := by
  refine callsD_of_wpS Tryd.func34 rfl fun c₀ cs hu => ?_
  apply wpS_seq
  apply wpS_region
  have h1 := as_nil
  simp [wpOpsS, go_sem, recoverD, hu, Tryd.ntmps34, Exit.thenS, h1]
  apply wpS_seq
  apply wpS_region
  simp [wpOpsS, go_sem, Exit.thenS]
  refine wpS_cond (t := false) (by simp [Act.eval, Array.replicate]) ?_
  simp only [Bool.false_eq_true, if_false]
  refine wpS_of_wp (wp_skip ?_)
  cases c₀
  simp_all [bodyPostS, results, Tryd.results34]
  exact Ext.new _ _
set_option maxHeartbeats 1600000 in
/-- the frame below panics with the parser's failure: it is recovered; the three results are laid -/
theorem catch_fail (p q r : Nat) (x m : Int) (older : List PanicEntry) (w : World) {c0 c1 c2 c3 c4 c5 c6 a1 b1 : Value} (h1 : Blk w p 30 #[c0, c1, c2, c3, c4, c5, c6]) (hpq : p ≠ q) (hpr : p ≠ r) (hqr : q ≠ r) (h2 : Blk w q 3 #[a1]) (h3 : Blk w r 34 #[b1]) :
    CallsD Tryd.prog 34 #[.pointer (some ⟨p, 0, none⟩), .pointer (some ⟨q, 0, none⟩), .pointer (some ⟨r, 0, none⟩)] (.panicking ({ v := .iface 66 (.agg #[.int .i64 x, .int .i64 m]), recovered := false } :: older)) w fun e u' w' =>
      e = .returned (.tuple #[]) ∧ u' = .panicking ({ v := .iface 66 (.agg #[.int .i64 x, .int .i64 m]), recovered := true } :: older) ∧
        Blk w' p 30 #[.int .i64 0, .string ⟨#[]⟩, .int .i64 0, .int .i64 0, .slice none 0 0, .int .i64 0, .int .i64 0] ∧ Blk w' q 3 #[.int .i64 x] ∧ Blk w' r 34 #[.int .i64 m] ∧ Rl.Chg (fun b => b = p ∨ b = q ∨ b = r) w w' := by
  refine callsD_of_wpS Tryd.func34 rfl fun c₀ cs hu => ?_
  apply wpS_seq
  apply wpS_region
  have hta := as_fail
  simp [wpOpsS, go_sem, recoverD, hu, Tryd.ntmps34, Exit.thenS, hta]
  apply wpS_seq
  apply wpS_region
  simp [wpOpsS, go_sem, Exit.thenS]
  refine wpS_cond (t := true) (by simp [Act.eval, Array.replicate]) ?_
  simp only [if_true]
  refine wpS_of_wp ?_
  have hb1 := h1.alloc (.cells #[.int .i64 x, .int .i64 m] 66)
  have hb2 := h2.alloc (.cells #[.int .i64 x, .int .i64 m] 66)
  have hb3 := h3.alloc (.cells #[.int .i64 x, .int .i64 m] 66)
  have hb4 := Blk.new w 66 #[.int .i64 x, .int .i64 m]
  have hzp := h1.lt
  have hzq := h2.lt
  have hzr := h3.lt
  generalize hwz : w.heap.size = z at *
  have hx := Rl.Chg.of_ext (E := fun b => b = p ∨ b = q ∨ b = r) (Ext.new w (.cells #[.int .i64 x, .int .i64 m] 66))
  generalize (w.alloc (.cells #[.int .i64 x, .int .i64 m] 66)) = w1 at *
  have p0 := hb1.cell 0
  have p1 := hb1.cell 1
  have p2 := hb1.cell 2
  have p3 := hb1.cell 3
  have p4 := hb1.cell 4
  have p5 := hb1.cell 5
  have p6 := hb1.cell 6
  have pf := hb1.frozen
  have q0 := hb2.cell 0
  have qf := hb2.frozen 0
  have r0 := hb3.cell 0
  have rf := hb3.frozen 0
  have z0 := hb4.cell 0
  have z1 := hb4.cell 1
  have nzp : z ≠ p := by omega
  have nzq : z ≠ q := by omega
  have nzr : z ≠ r := by omega
  refine wp_tmps (T' := #[.pointer (some ⟨p, 0, none⟩), .pointer (some ⟨q, 0, none⟩), .pointer (some ⟨r, 0, none⟩), .pointer (some ⟨z, 0, none⟩), .bool true, .tuple #[.agg #[.int .i64 x, .int .i64 m], .bool true], .iface 66 (.agg #[.int .i64 x, .int .i64 m]), .tuple #[.agg #[.int .i64 x, .int .i64 m], .bool true], .agg #[.int .i64 x, .int .i64 m], .bool true, .bool true, undef, undef, undef, undef, undef]) (by kernel_rfl) ?_
  go_region
  have k1 : Blk (((((((w1.setCell ⟨p, 0, none⟩ (.int .i64 0)).setCell ⟨p, 1, none⟩ (.string ⟨#[]⟩)).setCell ⟨p, 2, none⟩ (.int .i64 0)).setCell ⟨p, 3, none⟩ (.int .i64 0)).setCell ⟨p, 4, none⟩ (.slice none 0 0)).setCell ⟨p, 5, none⟩ (.int .i64 0)).setCell ⟨p, 6, none⟩ (.int .i64 0)) p 30 #[.int .i64 0, .string ⟨#[]⟩, .int .i64 0, .int .i64 0, .slice none 0 0, .int .i64 0, .int .i64 0] := by
    have := ((((((hb1.set 0 (.int .i64 0)).set 1 (.string ⟨#[]⟩)).set 2 (.int .i64 0)).set 3 (.int .i64 0)).set 4 (.slice none 0 0)).set 5 (.int .i64 0)).set 6 (.int .i64 0)
    simpa using this
  have o1 : Only p w1 (((((((w1.setCell ⟨p, 0, none⟩ (.int .i64 0)).setCell ⟨p, 1, none⟩ (.string ⟨#[]⟩)).setCell ⟨p, 2, none⟩ (.int .i64 0)).setCell ⟨p, 3, none⟩ (.int .i64 0)).setCell ⟨p, 4, none⟩ (.slice none 0 0)).setCell ⟨p, 5, none⟩ (.int .i64 0)).setCell ⟨p, 6, none⟩ (.int .i64 0)) :=
    ((((((Only.rf.set 0 _).set 1 _).set 2 _).set 3 _).set 4 _).set 5 _).set 6 _
  have k2 := hb2.only o1 (Ne.symm hpq)
  have k3 := hb3.only o1 (Ne.symm hpr)
  generalize (((((((w1.setCell ⟨p, 0, none⟩ (.int .i64 0)).setCell ⟨p, 1, none⟩ (.string ⟨#[]⟩)).setCell ⟨p, 2, none⟩ (.int .i64 0)).setCell ⟨p, 3, none⟩ (.int .i64 0)).setCell ⟨p, 4, none⟩ (.slice none 0 0)).setCell ⟨p, 5, none⟩ (.int .i64 0)).setCell ⟨p, 6, none⟩ (.int .i64 0)) = w2 at *
  have m1 := k1.only (Only.rf.set (g := q) 0 (.int .i64 x)) hpq
  have m2 := k2.set 0 (.int .i64 x)
  have m3 := k3.only (Only.rf.set (g := q) 0 (.int .i64 x)) (Ne.symm hqr)
  have n1 := m1.only (Only.rf.set (g := r) 0 (.int .i64 m)) hpr
  have n2 := m2.only (Only.rf.set (g := r) 0 (.int .i64 m)) hqr
  have n3 := m3.set 0 (.int .i64 m)
  have hch : Rl.Chg (fun b => b = p ∨ b = q ∨ b = r) w ((w2.setCell ⟨q, 0, none⟩ (.int .i64 x)).setCell ⟨r, 0, none⟩ (.int .i64 m)).drew :=
    Chg.tr (Chg.tr (Chg.tr (Chg.tr hx (Rl.Chg.of_grown (E := fun b => b = p) o1 (fun y e => by injection e with e; exact e.symm)) (fun i hi => .inl (.inl hi)))
      (Rl.Chg.of_grown (E := fun b => b = q) (r := some q) (Only.rf.set 0 _) (fun y e => by injection e with e; exact e.symm)) (fun i hi => .inl (.inr (.inl hi))))
      (Rl.Chg.of_grown (E := fun b => b = r) (r := some r) (Only.rf.set 0 _) (fun y e => by injection e with e; exact e.symm)) (fun i hi => .inl (.inr (.inr hi))))
      (Rl.Chg.of_ext (E := fun _ => False) (Ext.drawn _)) (fun i hi => hi.elim)
  refine ⟨rfl, _, rfl, .tuple #[], by simp [results, Tryd.results34], rfl, rfl, n1, ?_, ?_, hch⟩
  · exact n2
  · exact n3
end Go.Proofs.YtlfnpkjfnafeaaaDoor
/- The walk of the program's Parse. -/
namespace Go.Proofs.YtlfnpkjfnafeaaaDoor
open Go.RowKit
set_option linter.unusedVariables false
set_option maxRecDepth 100000
/-- what Parse returns -/
def ParsePost (s : List UInt8) (w : World) (e : Ending) (w' : World) : Prop := ∃ cs, e = .returned (.tuple #[.agg (cs ++ [.int .i64 (CL.parseS s).1.p, .int .i64 (CL.parseS s).1.m]).toArray, .int .i64 (CL.parseS s).2.1, .int .i64 (CL.parseS s).2.2]) ∧
  RdF w' w.heap.size w'.heap.size [] (CL.parseS s).1.e cs ∧ Ext w w'
theorem mf : ∀ (fn : Fn) (first cap : Array Value) (w : World), (Instr.makeFunc fn first cap).run Tryd.prog w = .ok (.func fn first cap) w := fun _ _ _ _ => rfl
/-- the results, read out of their blocks -/
theorem parse_res (T : Array Value) (W : World) (p q r : Nat) (c0 c1 c2 c3 c4 c5 c6 a e : Value) (h2 : T[2]? = some (.pointer (some ⟨p, 0, none⟩))) (h3 : T[3]? = some (.pointer (some ⟨q, 0, none⟩))) (h4 : T[4]? = some (.pointer (some ⟨r, 0, none⟩)))
    (b2 : Blk W p 30 #[c0, c1, c2, c3, c4, c5, c6]) (b3 : Blk W q 3 #[a]) (b4 : Blk W r 34 #[e]) : (results Tryd.f17 T).run Tryd.prog W = .ok (.tuple #[.agg #[c0, c1, c2, c3, c4, c5, c6], a, e]) W := by
  have p0 : W.cell? ⟨p, 0, none⟩ = some c0 := b2.cell 0
  have p1 : W.cell? ⟨p, 1, none⟩ = some c1 := b2.cell 1
  have p2 : W.cell? ⟨p, 2, none⟩ = some c2 := b2.cell 2
  have p3 : W.cell? ⟨p, 3, none⟩ = some c3 := b2.cell 3
  have p4 : W.cell? ⟨p, 4, none⟩ = some c4 := b2.cell 4
  have p5 : W.cell? ⟨p, 5, none⟩ = some c5 := b2.cell 5
  have p6 : W.cell? ⟨p, 6, none⟩ = some c6 := b2.cell 6
  have q0 : W.cell? ⟨q, 0, none⟩ = some a := b3.cell 0
  have r0 : W.cell? ⟨r, 0, none⟩ = some e := b4.cell 0
  simp [results, Tryd.results17, go_sem, h2, h3, h4, p0, p1, p2, p3, p4, p5, p6, q0, r0]
set_option maxHeartbeats 1600000 in
theorem request.Parse_lex (s : List UInt8) (w : World) (hs : s.length ≤ maxLen) (he : (CL.tokens s).2.2 ≠ 0) : Calls Tryd.prog 17 #[.string ⟨s.toArray⟩] w (ParsePost s w) := by
  have hP : CL.parseS s = (CL.noRq, (CL.tokens s).2.1, (CL.tokens s).2.2) := by unfold CL.parseS; rw [if_pos he]
  have hd : ((CL.tokens s).2.2 == 0) = false := by simpa using he
  have hx0 : Ext w (((w.alloc (.cells #[.int .i64 0, .string ⟨#[]⟩, .int .i64 0, .int .i64 0, .slice none 0 0, .int .i64 0, .int .i64 0] 30)).alloc (.cells #[.int .i64 0] 3)).alloc (.cells #[.int .i64 0] 34)) := (Ext.new _ _).tr ((Ext.new _ _).tr (Ext.new _ _))
  have bR := ((Blk.new w 30 #[.int .i64 0, .string ⟨#[]⟩, .int .i64 0, .int .i64 0, .slice none 0 0, .int .i64 0, .int .i64 0]).alloc (.cells #[.int .i64 0] 3)).alloc (.cells #[.int .i64 0] 34)
  have bA := (Blk.new (w.alloc (.cells #[.int .i64 0, .string ⟨#[]⟩, .int .i64 0, .int .i64 0, .slice none 0 0, .int .i64 0, .int .i64 0] 30)) 3 #[.int .i64 0]).alloc (.cells #[.int .i64 0] 34)
  have bE := Blk.new ((w.alloc (.cells #[.int .i64 0, .string ⟨#[]⟩, .int .i64 0, .int .i64 0, .slice none 0 0, .int .i64 0, .int .i64 0] 30)).alloc (.cells #[.int .i64 0] 3)) 34 #[.int .i64 0]
  simp only [World.size_alloc] at bA bE
  have HT := Tokens_c s (((w.alloc (.cells #[.int .i64 0, .string ⟨#[]⟩, .int .i64 0, .int .i64 0, .slice none 0 0, .int .i64 0, .int .i64 0] 30)).alloc (.cells #[.int .i64 0] 3)).alloc (.cells #[.int .i64 0] 34)) hs
  have hP := Lib.hid hP
  go_enter_defers Tryd.func17, Tryd.ntmps17
  go_wp2_with (go_at_call 33; refine HT.mono ?_; rintro e w1 ⟨v, rfl, hown, hx1⟩; have bR1 := Lib.hid (bR.ext hx1); have bA1 := Lib.hid (bA.ext hx1); have bE1 := Lib.hid (bE.ext hx1); have a0 := bA1.out.cell 0; have af := bA1.out.frozen 0; have e0 := bE1.out.cell 0; have ef := bE1.out.frozen 0; have hz := bE1.out.lt; clear hown)
  have bR2 := (bR1.out.only (Only.rf.set (g := w.heap.size + 1) 0 (.int .i64 (CL.tokens s).2.1)) (by omega)).only (Only.rf.set (g := w.heap.size + 1 + 1) 0 (.int .i64 (CL.tokens s).2.2)) (by omega)
  have bA2 := (bA1.out.set 0 (.int .i64 (CL.tokens s).2.1)).only (Only.rf.set (g := w.heap.size + 1 + 1) 0 (.int .i64 (CL.tokens s).2.2)) (by omega)
  have bE2 := (bE1.out.only (Only.rf.set (g := w.heap.size + 1) 0 (.int .i64 (CL.tokens s).2.1)) (by omega)).set 0 (.int .i64 (CL.tokens s).2.2)
  have hx2 : Ext w ((w1.setCell ⟨w.heap.size + 1, 0, none⟩ (.int .i64 (CL.tokens s).2.1)).setCell ⟨w.heap.size + 1 + 1, 0, none⟩ (.int .i64 (CL.tokens s).2.2)) := ((hx0.tr hx1).only (Only.rf.set 0 _) (by omega)).only (Only.rf.set 0 _) (by omega)
  clear a0 af e0 ef hz
  generalize ((w1.setCell ⟨w.heap.size + 1, 0, none⟩ (.int .i64 (CL.tokens s).2.1)).setCell ⟨w.heap.size + 1 + 1, 0, none⟩ (.int .i64 (CL.tokens s).2.2)) = w2 at *
  have p0 := bR2.cell 0
  have p1 := bR2.cell 1
  have p2 := bR2.cell 2
  have p3 := bR2.cell 3
  have p4 := bR2.cell 4
  have p5 := bR2.cell 5
  have p6 := bR2.cell 6
  have pf := bR2.frozen
  have a0 : w2.cell? ⟨w.heap.size + 1, 0, none⟩ = some (.int .i64 (CL.tokens s).2.1) := bA2.cell 0
  have af := bA2.frozen 0
  have e0 : w2.cell? ⟨w.heap.size + 1 + 1, 0, none⟩ = some (.int .i64 (CL.tokens s).2.2) := bE2.cell 0
  have ef := bE2.frozen 0
  go_region
  go_wp2
  have n1 := ((((((bR2.set 0 (.int .i64 0)).set 1 (.string ⟨#[]⟩)).set 2 (.int .i64 0)).set 3 (.int .i64 0)).set 4 (.slice none 0 0)).set 5 (.int .i64 0)).set 6 (.int .i64 0)
  have o1 : Only w.heap.size w2 (((((((w2.setCell ⟨w.heap.size, 0, none⟩ (.int .i64 0)).setCell ⟨w.heap.size, 1, none⟩ (.string ⟨#[]⟩)).setCell ⟨w.heap.size, 2, none⟩ (.int .i64 0)).setCell ⟨w.heap.size, 3, none⟩ (.int .i64 0)).setCell ⟨w.heap.size, 4, none⟩ (.slice none 0 0)).setCell ⟨w.heap.size, 5, none⟩ (.int .i64 0)).setCell ⟨w.heap.size, 6, none⟩ (.int .i64 0)) :=
    ((((((Only.rf.set 0 _).set 1 _).set 2 _).set 3 _).set 4 _).set 5 _).set 6 _
  have n2 := bA2.only o1 (by omega)
  have n3 := bE2.only o1 (by omega)
  have hx3 := hx2.only o1 (Nat.le_refl _)
  generalize (((((((w2.setCell ⟨w.heap.size, 0, none⟩ (.int .i64 0)).setCell ⟨w.heap.size, 1, none⟩ (.string ⟨#[]⟩)).setCell ⟨w.heap.size, 2, none⟩ (.int .i64 0)).setCell ⟨w.heap.size, 3, none⟩ (.int .i64 0)).setCell ⟨w.heap.size, 4, none⟩ (.slice none 0 0)).setCell ⟨w.heap.size, 5, none⟩ (.int .i64 0)).setCell ⟨w.heap.size, 6, none⟩ (.int .i64 0)) = w3 at *
  have m1 := (n1.only (Only.rf.set (g := w.heap.size + 1) 0 (.int .i64 (CL.tokens s).2.1)) (by omega)).only (Only.rf.set (g := w.heap.size + 1 + 1) 0 (.int .i64 (CL.tokens s).2.2)) (by omega)
  have m2 := (n2.set 0 (.int .i64 (CL.tokens s).2.1)).only (Only.rf.set (g := w.heap.size + 1 + 1) 0 (.int .i64 (CL.tokens s).2.2)) (by omega)
  have m3 := (n3.only (Only.rf.set (g := w.heap.size + 1) 0 (.int .i64 (CL.tokens s).2.1)) (by omega)).set 0 (.int .i64 (CL.tokens s).2.2)
  have hx4 : Ext w (((w3.setCell ⟨w.heap.size + 1, 0, none⟩ (.int .i64 (CL.tokens s).2.1)).setCell ⟨w.heap.size + 1 + 1, 0, none⟩ (.int .i64 (CL.tokens s).2.2)).drew) := ((hx3.only (Only.rf.set 0 _) (by omega)).only (Only.rf.set 0 _) (by omega)).tr (Ext.drawn _)
  refine ⟨_, parse_res _ _ w.heap.size (w.heap.size + 1) (w.heap.size + 1 + 1) _ _ _ _ _ _ _ _ _ rfl rfl rfl m1 m2 m3, ?_⟩
  unfold ParsePost
  rw [hP.out]
  exact ⟨[.int .i64 0, .string ⟨#[]⟩, .int .i64 0, .int .i64 0, .slice none 0 0], rfl, RdF.leaf _ _ _ _ 0 CL.noAt (by simp [CL.noAt, maxLen]), hx4⟩
theorem tokens_count7 (s : List UInt8) : (CL.tokens s).1.length ≤ 1025 := by
  unfold CL.tokens
  split
  · simp
  · rename_i h
    have : ∀ (f i : Nat) (r : List UInt8) (acc : List CL.Tk), (CL.toks f i r acc).1.length ≤ acc.length + r.length + 1 := by
      intro f
      induction f with
      | zero => intro i r acc; simp [CL.toks]
      | succ f ih =>
        intro i r acc
        cases r with
        | nil => simp [CL.toks]
        | cons c r =>
          simp only [CL.toks]
          split
          · have := ih (i + 1) r acc; simp only [List.length_cons]; omega
          · split
            · rename_i ho
              have h1 := CL.one_len ho
              have := ih (i + (CL.one (c :: r) i).2.2) ((c :: r).drop (CL.one (c :: r) i).2.2) (acc ++ [(CL.one (c :: r) i).2.1])
              simp only [List.length_append, List.length_drop, List.length_cons, List.length_nil] at this h1 ⊢
              omega
            · simp
    have := this (s.length + 1) 0 (s.drop 0) []
    simp only [CL.tokF, List.drop_zero, List.length_nil] at this ⊢
    omega
/-- what a parse comes to -/
def parR : Except (Int × Int) CL.Rq → CL.Rq × Int × Int
  | .error e => (CL.noRq, e.1, e.2)
  | .ok q => (q, 0, 0)
theorem parse_parR {s : List UInt8} (he : (CL.tokens s).2.2 = 0) : CL.parseS s = parR (CL.parseT (CL.tokens s).1) := by
  unfold CL.parseS
  rw [if_neg (by simp [he])]
  cases CL.parseT (CL.tokens s).1 <;> rfl
theorem OptPost.er {w : World} {g B base : Nat} {A : Option Addr} {c : Nat} {all : List CL.Tk} {v : Value} {r : CL.PR Int} {e : Ending} {w' : World} {p : Int × Int} (h : OptPost w g B base A c all v r e w') (hr : r = .error p) : e = failE p.1 p.2 ∧ Below B w w' := by
  rw [hr] at h; exact h
theorem OptPost.ok {w : World} {g B base : Nat} {A : Option Addr} {c : Nat} {all : List CL.Tk} {v : Value} {r : CL.PR Int} {e : Ending} {w' : World} {n : Int} {s' : CL.PS} (h : OptPost w g B base A c all v r e w') (hr : r = .ok (n, s')) : e = .returned (.int .i64 n) ∧ ∃ k', PSt w' g B base A c all v k' s' ∧ Mv g v v w w' := by
  rw [hr] at h; exact h
/-- the expression is stored at the head of the request's block -/
theorem wpList_store_rq {P : Program} {ops : Array Oper} {rest : List Oper} {o : Oper} {a : Act} {W : World} {Q : Exit → Act → World → Prop} (hgd : o.guard = none) (hd : o.dst = none) (ty : TypeId) (x y : Operand) (ho : o.op = .store ty x y) (g : Nat) (d0 d1 d2 d3 d4 : Value) (hx : a.eval x = .pointer (some ⟨g, 0, none⟩)) (hy : a.eval y = .agg #[d0, d1, d2, d3, d4]) (t : TypeId) {c0 c1 c2 c3 c4 c5 c6 : Value} (hb : Blk W g t #[c0, c1, c2, c3, c4, c5, c6])
    (hi : (P.info? ty).map (·.size) = some 5) (h1 : (#[d0, d1, d2, d3, d4] : Array Value).all (·.oneCell') = true) (h : ∀ w3, Blk w3 g t #[d0, d1, d2, d3, d4, c5, c6] → Only g W w3 → wpList P ops Q rest a w3) : wpList P ops Q (o :: rest) a W := by
  refine wpList_store_mid hgd ty x y ho g 0 #[d0, d1, d2, d3, d4] hx hy ?_ hi h1 ?_
  · intro j hj
    have hj5 : j < 5 := hj
    rw [Nat.zero_add, hb.cell, hb.frozen]
    refine ⟨?_, rfl⟩
    have : j = 0 ∨ j = 1 ∨ j = 2 ∨ j = 3 ∨ j = 4 := by omega
    rcases this with rfl | rfl | rfl | rfl | rfl <;> rfl
  · rw [hd]
    refine h _ ?_ ?_
    · have := ((((hb.set 0 d0).set 1 d1).set 2 d2).set 3 d3).set 4 d4
      simpa [World.setCells] using this
    · exact ((((Only.rf.set 0 _).set 1 _).set 2 _).set 3 _).set 4 _
/-- a block in front of the tokens has changed -/
theorem PSt.low {w w' : World} {g B base : Nat} {A : Option Addr} {c : Nat} {all : List CL.Tk} {v : Value} {k : Nat} {s : CL.PS} (h : PSt w g B base A c all v k s) {p : Nat} (hA : ∀ b o, A = some ⟨b, o, none⟩ → b ≠ p) (hv : v.ownBlock ≠ some p) (hpg : g ≠ p) (ho : Only p w w') : PSt w' g B base A c all v k s := by
  refine ⟨h.hk, h.last, h.r, h.blk.only ho hpg, own_only h.own ho hv, fun hn => ?_, h.Bg, h.Bb, Nat.le_trans h.bs ho.size, h.len, h.l8, h.n30, h.ok⟩
  obtain ⟨b, o, e, hb, hc⟩ := h.tk hn
  refine ⟨b, o, e, hb, fun j u hu => ?_⟩
  have h1 := hc j u hu
  have h2 := ho.block b (World.block_lt_of_cell? _ _ h1) (fun he => by injection he with he; exact hA b o e he)
  unfold World.cell? at h1 ⊢
  rw [h2]; exact h1
theorem Blk.blw {w w' : World} {g B : Nat} {t : TypeId} {cs : Array Value} (h : Blk w g t cs) (hb : Below B w w') (hg : g < B) : Blk w' g t cs := (hb.block g hg).trans h
/-- the parser has failed: the deferred function lays the results -/
theorem parse_panic (T : Array Value) (R : Ending → World → Prop) (w w5 : World) (p q r : Nat) (x m : Int) {c0 c1 c2 c3 c4 c5 c6 a1 b1 : Value} (h2 : T[2]? = some (.pointer (some ⟨p, 0, none⟩))) (h3 : T[3]? = some (.pointer (some ⟨q, 0, none⟩))) (h4 : T[4]? = some (.pointer (some ⟨r, 0, none⟩)))
    (k2 : Blk w5 p 30 #[c0, c1, c2, c3, c4, c5, c6]) (k3 : Blk w5 q 3 #[a1]) (k4 : Blk w5 r 34 #[b1]) (hpq : p ≠ q) (hpr : p ≠ r) (hqr : q ≠ r) (hx : Ext w w5) (hp : w.heap.size ≤ p) (hq : w.heap.size ≤ q) (hr : w.heap.size ≤ r)
    (hR : ∀ w6, Ext w w6 → R (.returned (.tuple #[.agg #[.int .i64 0, .string ⟨#[]⟩, .int .i64 0, .int .i64 0, .slice none 0 0, .int .i64 0, .int .i64 0], .int .i64 x, .int .i64 m])) w6) :
    Leaves Tryd.prog Tryd.f17 T R [{ target := .fn (.func 34) #[.pointer (some ⟨p, 0, none⟩), .pointer (some ⟨q, 0, none⟩), .pointer (some ⟨r, 0, none⟩)], args := #[] }] (.panicking [{ v := .iface 66 (.agg #[.int .i64 x, .int .i64 m]), recovered := false }]) w5 := by
  refine leaves_cons (f := 34) (args := #[.pointer (some ⟨p, 0, none⟩), .pointer (some ⟨q, 0, none⟩), .pointer (some ⟨r, 0, none⟩)]) (by simp) (by simp [go_sem]) ?_
  refine (catch_fail p q r x m [] w5 k2 hpq hpr hqr k3 k4).mono ?_
  rintro e u' w6 ⟨rfl, rfl, n2, n3, n4, hch⟩
  have hx6 : Ext w w6 := (Chg.tr (Rl.Chg.of_ext (E := fun _ => False) hx) hch (fun i hi => .inr (by omega))).ext (fun _ h => h)
  refine ⟨_, parse_res _ _ p q r _ _ _ _ _ _ _ _ _ h2 h3 h4 n2 n3 n4, hR w6 hx6⟩
set_option maxHeartbeats 1600000 in
theorem request.Parse_ok (s : List UInt8) (w : World) (hs : s.length ≤ maxLen) (he : (CL.tokens s).2.2 = 0) : Calls Tryd.prog 17 #[.string ⟨s.toArray⟩] w (ParsePost s w) := by
  unfold ParsePost
  rw [parse_parR he]
  have he2 : ((CL.tokens s).2.2 == 0) = true := by simp [he]
  have hn := tokens_count7 s
  have hs1 : s.length ≤ 1024 := (CL.tokens_ind (fun _ _ => True) trivial (fun _ _ _ _ _ => trivial) (fun _ _ _ _ _ _ _ _ _ _ => trivial) he).2.2
  have hOk := CL.tokens_TkOk he
  have hPl := (CL.tokens_Pl he).last
  have hx0 : Ext w (((w.alloc (.cells #[.int .i64 0, .string ⟨#[]⟩, .int .i64 0, .int .i64 0, .slice none 0 0, .int .i64 0, .int .i64 0] 30)).alloc (.cells #[.int .i64 0] 3)).alloc (.cells #[.int .i64 0] 34)) := (Ext.new _ _).tr ((Ext.new _ _).tr (Ext.new _ _))
  have bR := ((Blk.new w 30 #[.int .i64 0, .string ⟨#[]⟩, .int .i64 0, .int .i64 0, .slice none 0 0, .int .i64 0, .int .i64 0]).alloc (.cells #[.int .i64 0] 3)).alloc (.cells #[.int .i64 0] 34)
  have bA := (Blk.new (w.alloc (.cells #[.int .i64 0, .string ⟨#[]⟩, .int .i64 0, .int .i64 0, .slice none 0 0, .int .i64 0, .int .i64 0] 30)) 3 #[.int .i64 0]).alloc (.cells #[.int .i64 0] 34)
  have bE := Blk.new ((w.alloc (.cells #[.int .i64 0, .string ⟨#[]⟩, .int .i64 0, .int .i64 0, .slice none 0 0, .int .i64 0, .int .i64 0] 30)).alloc (.cells #[.int .i64 0] 3)) 34 #[.int .i64 0]
  simp only [World.size_alloc] at bA bE
  have HT := Tokens_c s (((w.alloc (.cells #[.int .i64 0, .string ⟨#[]⟩, .int .i64 0, .int .i64 0, .slice none 0 0, .int .i64 0, .int .i64 0] 30)).alloc (.cells #[.int .i64 0] 3)).alloc (.cells #[.int .i64 0] 34)) hs
  unfold TokPost at HT
  generalize (CL.tokens s).1 = all at *
  generalize (CL.tokens s).2.1 = at1 at *
  generalize (CL.tokens s).2.2 = er1 at *
  subst he
  have hmf := mf
  go_enter_defers Tryd.func17, Tryd.ntmps17
  go_wp2_with (go_at_call 33; refine HT.mono ?_; rintro e w1 ⟨v, rfl, hown, hx1⟩; obtain ⟨A, c, rfl, hlc, _⟩ := own_form hown; have bR1 := Lib.hid (bR.ext hx1); have bA1 := Lib.hid (bA.ext hx1); have bE1 := Lib.hid (bE.ext hx1); have a0 := bA1.out.cell 0; have af := bA1.out.frozen 0; have e0 := bE1.out.cell 0; have ef := bE1.out.frozen 0; have hz := bE1.out.lt; have hown := Lib.hid hown)
  have hoq : (Value.slice A all.length c).ownBlock ≠ some (w.heap.size + 1) := fun e => by have := (hown.out.lt _ e).1; simp only [World.size_alloc] at this; omega
  have hor : (Value.slice A all.length c).ownBlock ≠ some (w.heap.size + 1 + 1) := fun e => by have := (hown.out.lt _ e).1; simp only [World.size_alloc] at this; omega
  have hAb : ∀ b o, A = some ⟨b, o, none⟩ → w.heap.size + 3 ≤ b := fun b o e => by have := (hown.out.lt b (by rw [e]; rfl)).1; simp only [World.size_alloc] at this; omega
  have hown2 := own_only (own_only hown.out (Only.rf.set (g := w.heap.size + 1) 0 (.int .i64 at1)) hoq) (Only.rf.set (g := w.heap.size + 1 + 1) 0 (.int .i64 0)) hor
  have bR2 := (bR1.out.only (Only.rf.set (g := w.heap.size + 1) 0 (.int .i64 at1)) (by omega)).only (Only.rf.set (g := w.heap.size + 1 + 1) 0 (.int .i64 0)) (by omega)
  have bA2 := (bA1.out.set 0 (.int .i64 at1)).only (Only.rf.set (g := w.heap.size + 1 + 1) 0 (.int .i64 0)) (by omega)
  have bE2 := (bE1.out.only (Only.rf.set (g := w.heap.size + 1) 0 (.int .i64 at1)) (by omega)).set 0 (.int .i64 0)
  have hx2 : Ext w ((w1.setCell ⟨w.heap.size + 1, 0, none⟩ (.int .i64 at1)).setCell ⟨w.heap.size + 1 + 1, 0, none⟩ (.int .i64 0)) := ((hx0.tr hx1).only (Only.rf.set 0 _) (by omega)).only (Only.rf.set 0 _) (by omega)
  have hsz : ((w1.setCell ⟨w.heap.size + 1, 0, none⟩ (.int .i64 at1)).setCell ⟨w.heap.size + 1 + 1, 0, none⟩ (.int .i64 0)).heap.size = w1.heap.size := by simp [World.setCell]
  clear a0 af e0 ef hoq hor hown
  generalize ((w1.setCell ⟨w.heap.size + 1, 0, none⟩ (.int .i64 at1)).setCell ⟨w.heap.size + 1 + 1, 0, none⟩ (.int .i64 0)) = w2 at *
  obtain ⟨hl0, hlast⟩ := hPl
  have HP0 : PSt (w2.alloc (.cells #[.slice A all.length c, .int .i64 0, .int .i64 0, .slice none 0 0] 70)) w1.heap.size w1.heap.size w1.heap.size A c all (.slice none 0 0) 0 ⟨0, [], all⟩ := by
    have hb := Blk.new w2 70 #[.slice A all.length c, .int .i64 0, .int .i64 0, .slice none 0 0]
    rw [hsz] at hb
    refine ⟨hl0, fun _ => by rw [hlast], rfl, hb, ⟨rfl, .inl ⟨rfl, rfl⟩⟩, ?_, Nat.le_refl _, Nat.le_refl _, by rw [World.size_alloc, hsz]; omega, by omega, by simp, by simp, hOk⟩
    have := (SitsB.of (Sits.of_own hown2)).below ((Ext.new w2 (.cells #[.slice A all.length c, .int .i64 0, .int .i64 0, .slice none 0 0] 70)))
    rwa [hsz] at this
  have hxW := hx2.tr (Ext.new w2 (.cells #[.slice A all.length c, .int .i64 0, .int .i64 0, .slice none 0 0] 70))
  have bRW := bR2.alloc (.cells #[.slice A all.length c, .int .i64 0, .int .i64 0, .slice none 0 0] 70)
  have bAW := bA2.alloc (.cells #[.slice A all.length c, .int .i64 0, .int .i64 0, .slice none 0 0] 70)
  have bEW := bE2.alloc (.cells #[.slice A all.length c, .int .i64 0, .int .i64 0, .slice none 0 0] 70)
  have hzW : (w2.alloc (.cells #[.slice A all.length c, .int .i64 0, .int .i64 0, .slice none 0 0] 70)).heap.size = w1.heap.size + 1 := by rw [World.size_alloc, hsz]
  clear hown2 bR2 bA2 bE2 hx2 hsz hx0 hx1 bR1 bA1 bE1 bR bA bE HT hmf hl0 hlast hOk hn
  generalize w2.alloc (.cells #[.slice A all.length c, .int .i64 0, .int .i64 0, .slice none 0 0] 70) = W at *
  clear w2
  have hR : ∀ x m w6, Ext w w6 → CL.parseT all = .error (x, m) → ∃ cs, Ending.returned (.tuple #[.agg #[.int .i64 0, .string ⟨#[]⟩, .int .i64 0, .int .i64 0, .slice none 0 0, .int .i64 0, .int .i64 0], .int .i64 x, .int .i64 m]) = .returned (.tuple #[.agg (cs ++ [.int .i64 (parR (CL.parseT all)).1.p, .int .i64 (parR (CL.parseT all)).1.m]).toArray, .int .i64 (parR (CL.parseT all)).2.1, .int .i64 (parR (CL.parseT all)).2.2]) ∧ RdF w6 w.heap.size w6.heap.size [] (parR (CL.parseT all)).1.e cs ∧ Ext w w6 := by
    intro x m w6 hx6 hr
    rw [hr]
    exact ⟨[.int .i64 0, .string ⟨#[]⟩, .int .i64 0, .int .i64 0, .slice none 0 0], rfl, RdF.leaf _ _ _ _ 0 CL.noAt (by simp [CL.noAt, maxLen]), hx6⟩
  have hR := Lib.hid hR
  have HX := parser.expr_c 4 1 rfl (by decide) _ _ _ _ _ _ _ _ _ _ HP0 (Nat.zero_le _)
  cases hx : CL.exprP 4 ⟨0, [], all⟩ with
  | error q =>
    have hT : CL.parseT all = .error (q.1, q.2) := by unfold CL.parseT; rw [hx]; rfl
    refine HX.mono ?_
    intro e w5 hp
    obtain ⟨he, hb5⟩ := hp.er hx
    unfold failE at he
    subst he
    exact parse_panic _ _ w w5 w.heap.size (w.heap.size + 1) (w.heap.size + 1 + 1) q.1 q.2 rfl rfl rfl (bRW.blw hb5 (by omega)) (bAW.blw hb5 (by omega)) (bEW.blw hb5 (by omega)) (by omega) (by omega) (by omega) (hxW.trans (hb5.mono (by omega))) (by omega) (by omega) (by omega) (fun w6 h6 => hR.out _ _ w6 h6 hT)
  | ok z =>
    obtain ⟨x, s1⟩ := z
    refine HX.mono ?_
    intro e w5 hp
    obtain ⟨i5, n5, m5, u5, A5, l5, c5, v5, k5, rfl, hp5, hm5, hrd5⟩ := hp.ok hx
    have hnp : ∀ {w' : World} {k' : Nat} {s' : CL.PS} {T : TypeId} {cs : Array Value} {b : Nat}, PSt w' w1.heap.size w1.heap.size w1.heap.size A c all v5 k' s' → Blk w' b T cs → 25 ≠ T → v5.ownBlock ≠ some b := fun h1 h2 h3 => own_ne h1.own h2 h3
    have bR5 := Lib.hid (bRW.mv hm5 (by omega) (fun e => by simp [Value.ownBlock] at e))
    have bA5 := bAW.mv hm5 (by omega) (fun e => by simp [Value.ownBlock] at e)
    have bE5 := bEW.mv hm5 (by omega) (fun e => by simp [Value.ownBlock] at e)
    have hx5 : Ext w w5 := hxW.trans ((HP0.below hm5).mono (by omega))
    have hz5 := hm5.chg.size
    clear hm5 hp HX hxW bRW bAW bEW
    go_wp2_with (with_reducible refine is_store 28 (.tmp 24) (.tmp 23) rfl ?_; refine wpList_store_rq rfl rfl 28 (.tmp 24) (.tmp 23) rfl w.heap.size (.int .i64 i5) (.string n5) (.int .i64 m5) (.int .i64 u5) (.slice A5 l5 c5) rfl rfl _ bR5.out ex_isz (by simp [Value.oneCell']) ?_; intro w6 bR6 ho6)
    have hp6 := hp5.low (p := w.heap.size) (fun b o e => by have := hAb b o e; omega) (hnp hp5 bR5.out (by decide)) (by omega) ho6
    have bA6 := bA5.only ho6 (by omega)
    have bE6 := bE5.only ho6 (by omega)
    have hx6 : Ext w w6 := hx5.only ho6 (Nat.le_refl _)
    have hrd6 := hrd5.go (Rl.Chg.of_grown (E := fun b => b = w.heap.size) ho6 (fun y e => by injection e with e; exact e.symm)) (fun b hb => .inr (by omega)) (fun y hy => .inl hy)
    have hz6 := ho6.size
    clear hrd5 hp5 bA5 bE5 hx5 bR5 ho6
    have HO := parser.option_c hp6 [112, 114, 105, 111] 7
    cases ho1 : CL.optP [112, 114, 105, 111] 7 s1 with
    | error q =>
      have hT : CL.parseT all = .error (q.1, q.2) := by unfold CL.parseT CL.wPrio; rw [hx, CL.bind_ok, ho1]; rfl
      refine HO.mono ?_
      intro e w7 hp
      obtain ⟨he, hb7⟩ := hp.er ho1
      unfold failE at he
      subst he
      exact parse_panic _ _ w w7 w.heap.size (w.heap.size + 1) (w.heap.size + 1 + 1) q.1 q.2 rfl rfl rfl (bR6.blw hb7 (by omega)) (bA6.blw hb7 (by omega)) (bE6.blw hb7 (by omega)) (by omega) (by omega) (by omega) (hx6.trans (hb7.mono (by omega))) (by omega) (by omega) (by omega) (fun w6 h6 => hR.out _ _ w6 h6 hT)
    | ok z =>
      obtain ⟨y1, s2⟩ := z
      refine HO.mono ?_
      intro e w7 hp
      obtain ⟨rfl, k7, hp7, hm7⟩ := hp.ok ho1
      have bR7 := bR6.mv hm7 (by omega) (hnp hp6 bR6 (by decide))
      have bA7 := bA6.mv hm7 (by omega) (hnp hp6 bA6 (by decide))
      have bE7 := bE6.mv hm7 (by omega) (hnp hp6 bE6 (by decide))
      have hx7 : Ext w w7 := hx6.trans ((hp6.below hm7).mono (by omega))
      have hrd7 := hrd6.go hm7.chg (fun b hb => by rcases hb with hb | hb; exact .inr (by omega); exact .inl (by simp [hb])) (fun y hy => .inl hy)
      have hz7 := hm7.chg.size
      have q5 := bR7.cell 5
      have f5 := bR7.frozen 5
      have bR7 := Lib.hid bR7
      clear hrd6 hp6 bA6 bE6 hx6 bR6 hm7 hp HO
      go_wp2_with fail
      have ho8 := Only.rf.set (a := w7) (w := w7) (g := w.heap.size) 5 (.int .i64 y1)
      have hp8 := hp7.low (p := w.heap.size) (fun b o e => by have := hAb b o e; omega) (hnp hp7 bR7.out (by decide)) (by omega) ho8
      have bR8 : Blk (w7.setCell ⟨w.heap.size, 5, none⟩ (.int .i64 y1)) w.heap.size 30 #[.int .i64 i5, .string n5, .int .i64 m5, .int .i64 u5, .slice A5 l5 c5, .int .i64 y1, .int .i64 0] := bR7.out.set 5 (.int .i64 y1)
      have bA8 := bA7.only ho8 (by omega)
      have bE8 := bE7.only ho8 (by omega)
      have hx8 := hx7.only ho8 (Nat.le_refl _)
      have hrd8 := hrd7.go (Rl.Chg.of_grown (E := fun b => b = w.heap.size) ho8 (fun y e => by injection e with e; exact e.symm)) (fun b hb => .inr (by omega)) (fun y hy => .inl hy)
      have hz8 := ho8.size
      clear hrd7 hp7 bA7 bE7 hx7 bR7 ho8 q5 f5
      generalize w7.setCell ⟨w.heap.size, 5, none⟩ (.int .i64 y1) = w8 at *
      have HO := parser.option_c hp8 [108, 105, 109, 105, 116] 1000
      cases ho2 : CL.optP [108, 105, 109, 105, 116] 1000 s2 with
      | error q =>
        have hT : CL.parseT all = .error (q.1, q.2) := by unfold CL.parseT CL.wPrio CL.wLimit; rw [hx, CL.bind_ok, ho1, CL.bind_ok, ho2]; rfl
        refine HO.mono ?_
        intro e w9 hp
        obtain ⟨he, hb9⟩ := hp.er ho2
        unfold failE at he
        subst he
        exact parse_panic _ _ w w9 w.heap.size (w.heap.size + 1) (w.heap.size + 1 + 1) q.1 q.2 rfl rfl rfl (bR8.blw hb9 (by omega)) (bA8.blw hb9 (by omega)) (bE8.blw hb9 (by omega)) (by omega) (by omega) (by omega) (hx8.trans (hb9.mono (by omega))) (by omega) (by omega) (by omega) (fun w6 h6 => hR.out _ _ w6 h6 hT)
      | ok z =>
        obtain ⟨y2, s3⟩ := z
        refine HO.mono ?_
        intro e w9 hp
        obtain ⟨rfl, k9, hp9, hm9⟩ := hp.ok ho2
        have bR9 := bR8.mv hm9 (by omega) (hnp hp8 bR8 (by decide))
        have bA9 := bA8.mv hm9 (by omega) (hnp hp8 bA8 (by decide))
        have bE9 := bE8.mv hm9 (by omega) (hnp hp8 bE8 (by decide))
        have hx9 : Ext w w9 := hx8.trans ((hp8.below hm9).mono (by omega))
        have hrd9 := hrd8.go hm9.chg (fun b hb => by rcases hb with hb | hb; exact .inr (by omega); exact .inl (by simp [hb])) (fun y hy => .inl hy)
        have hz9 := hm9.chg.size
        have q6 := bR9.cell 6
        have f6 := bR9.frozen 6
        have bR9 := Lib.hid bR9
        clear hrd8 hp8 bA8 bE8 hx8 bR8 hm9 hp HO
        go_wp2_with fail
        have ho10 := Only.rf.set (a := w9) (w := w9) (g := w.heap.size) 6 (.int .i64 y2)
        have hp10 := hp9.low (p := w.heap.size) (fun b o e => by have := hAb b o e; omega) (hnp hp9 bR9.out (by decide)) (by omega) ho10
        have bR10 : Blk (w9.setCell ⟨w.heap.size, 6, none⟩ (.int .i64 y2)) w.heap.size 30 #[.int .i64 i5, .string n5, .int .i64 m5, .int .i64 u5, .slice A5 l5 c5, .int .i64 y1, .int .i64 y2] := bR9.out.set 6 (.int .i64 y2)
        have bA10 := bA9.only ho10 (by omega)
        have bE10 := bE9.only ho10 (by omega)
        have hx10 := hx9.only ho10 (Nat.le_refl _)
        have hrd10 := hrd9.go (Rl.Chg.of_grown (E := fun b => b = w.heap.size) ho10 (fun y e => by injection e with e; exact e.symm)) (fun b hb => .inr (by omega)) (fun y hy => .inl hy)
        have hz10 := ho10.size
        clear hrd9 hp9 bA9 bE9 hx9 bR9 ho10 q6 f6
        generalize w9.setCell ⟨w.heap.size, 6, none⟩ (.int .i64 y2) = w10 at *
        by_cases h5 : s3.hd.kind = 5
        · have hT : CL.parseT all = .ok ⟨x, y1, y2⟩ := by unfold CL.parseT CL.wPrio CL.wLimit; rw [hx, CL.bind_ok, ho1, CL.bind_ok, ho2, CL.bind_ok, if_pos h5]
          refine (parser.take_ok hp10 5 h5).mono ?_
          rintro e w11 ⟨rfl, _, hm11⟩
          have bR11 := bR10.mv hm11 (by omega) (hnp hp10 bR10 (by decide))
          have bA11 := bA10.mv hm11 (by omega) (hnp hp10 bA10 (by decide))
          have bE11 := bE10.mv hm11 (by omega) (hnp hp10 bE10 (by decide))
          have hx11 : Ext w w11 := hx10.trans ((hp10.below hm11).mono (by omega))
          have hrd11 := hrd10.go hm11.chg (fun b hb => by rcases hb with hb | hb; exact .inr (by omega); exact .inl (by simp [hb])) (fun y hy => .inl hy)
          have hz11 := hm11.chg.size
          have q0 := bR11.cell 0
          have q1 := bR11.cell 1
          have q2 := bR11.cell 2
          have q3 := bR11.cell 3
          have q4 := bR11.cell 4
          have q5 := bR11.cell 5
          have q6 := bR11.cell 6
          have bR11 := Lib.hid bR11
          have bA11 := Lib.hid bA11
          have bE11 := Lib.hid bE11
          have hrd11 := Lib.hid hrd11
          clear hrd10 hp10 bA10 bE10 hx10 bR10 hm11
          go_wp2_with (with_reducible refine is_store 30 (.tmp 2) (.tmp 33) rfl ?_; refine wpList_store_blk rfl rfl 30 (.tmp 2) (.tmp 33) rfl w.heap.size #[.int .i64 i5, .string n5, .int .i64 m5, .int .i64 u5, .slice A5 l5 c5, .int .i64 y1, .int .i64 y2] rfl rfl _ _ bR11.out 7 rq_isz rfl rfl (by simp [Value.oneCell']) ?_; intro w12 bR12 ho12; have bA12 := Lib.hid (bA11.out.only ho12 (by omega)); have bE12 := Lib.hid (bE11.out.only ho12 (by omega)); have a0 := bA12.out.cell 0; have af := bA12.out.frozen 0; have e0 := bE12.out.cell 0; have ef := bE12.out.frozen 0; have bR12 := Lib.hid bR12; have ho12 := Lib.hid ho12; clear q0 q1 q2 q3 q4 q5 q6)
          have k2 := (bR12.out.only (Only.rf.set (g := w.heap.size + 1) 0 (.int .i64 0)) (by omega)).only (Only.rf.set (g := w.heap.size + 1 + 1) 0 (.int .i64 0)) (by omega)
          have k3 := (bA12.out.set 0 (.int .i64 0)).only (Only.rf.set (g := w.heap.size + 1 + 1) 0 (.int .i64 0)) (by omega)
          have k4 := (bE12.out.only (Only.rf.set (g := w.heap.size + 1) 0 (.int .i64 0)) (by omega)).set 0 (.int .i64 0)
          have hx13 : Ext w ((w12.setCell ⟨w.heap.size + 1, 0, none⟩ (.int .i64 0)).setCell ⟨w.heap.size + 1 + 1, 0, none⟩ (.int .i64 0)) := ((hx11.only ho12.out (Nat.le_refl _)).only (Only.rf.set 0 _) (by omega)).only (Only.rf.set 0 _) (by omega)
          have hone : ∀ (b : Nat) (u v : World), Only b u v → Rl.Chg (fun i => i = b) u v := fun b u v ho => Rl.Chg.of_grown ho (fun y e => by injection e with e; exact e.symm)
          have r12 := hrd11.out.go (hone _ _ _ ho12.out) (fun b hb => .inr (by omega)) (fun y hy => .inl hy)
          have r13a := r12.go (hone _ _ _ (Only.rf.set (g := w.heap.size + 1) 0 (.int .i64 0))) (fun b hb => .inr (by omega)) (fun y hy => .inl hy)
          have r13 := r13a.go (hone _ _ _ (Only.rf.set (g := w.heap.size + 1 + 1) 0 (.int .i64 0))) (fun b hb => .inr (by omega)) (fun y hy => .inl hy)
          generalize ((w12.setCell ⟨w.heap.size + 1, 0, none⟩ (.int .i64 0)).setCell ⟨w.heap.size + 1 + 1, 0, none⟩ (.int .i64 0)) = w13 at *
          refine leaves_cons (f := 34) (args := #[.pointer (some ⟨w.heap.size, 0, none⟩), .pointer (some ⟨w.heap.size + 1, 0, none⟩), .pointer (some ⟨w.heap.size + 1 + 1, 0, none⟩)]) (by simp) (by simp [go_sem]) ?_
          refine (catch_idle _ _ _ w13).mono ?_
          rintro e u' w14 ⟨rfl, rfl, hx14⟩
          refine ⟨_, parse_res _ _ w.heap.size (w.heap.size + 1) (w.heap.size + 1 + 1) _ _ _ _ _ _ _ _ _ rfl rfl rfl (k2.ext hx14) (k3.ext hx14) (k4.ext hx14), ?_⟩
          rw [hT]
          refine ⟨[.int .i64 i5, .string n5, .int .i64 m5, .int .i64 u5, .slice A5 l5 c5], rfl, ?_, hx13.tr hx14⟩
          exact (r13.go (Rl.Chg.of_ext (E := fun _ => False) hx14) (fun b hb => hb.elim) (X' := []) (fun y hy => by simp at hy)).wide (by omega) (Nat.le_refl _) (fun k _ _ hk => by simp at hk)
        · have hT : CL.parseT all = .error (s3.hd.pos, 8) := by unfold CL.parseT CL.wPrio CL.wLimit; rw [hx, CL.bind_ok, ho1, CL.bind_ok, ho2, CL.bind_ok, if_neg h5]
          refine (parser.take_er hp10 5 h5).mono ?_
          unfold failE
          rintro e w11 ⟨rfl, hx11⟩
          exact parse_panic _ _ w w11 w.heap.size (w.heap.size + 1) (w.heap.size + 1 + 1) s3.hd.pos 8 rfl rfl rfl (bR10.ext hx11) (bA10.ext hx11) (bE10.ext hx11) (by omega) (by omega) (by omega) (hx10.tr hx11) (by omega) (by omega) (by omega) (fun w6 h6 => hR.out _ _ w6 h6 hT)
theorem request.Parse_c (s : List UInt8) (w : World) (hs : s.length ≤ maxLen) : Calls Tryd.prog 17 #[.string ⟨s.toArray⟩] w (ParsePost s w) := by
  by_cases he : (CL.tokens s).2.2 = 0
  · exact request.Parse_ok s w hs he
  · exact request.Parse_lex s w hs he
end Go.Proofs.YtlfnpkjfnafeaaaDoor
