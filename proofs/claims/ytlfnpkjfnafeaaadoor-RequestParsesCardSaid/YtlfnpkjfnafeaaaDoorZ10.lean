/-  -/
import Derived.Test.YtlfnpkjfnafeaaaDoorZ5
import Derived.Test.YtlfnpkjfnafeaaaDoorZ9
import Derived.Test.YtlfnpkjfnafeaaaDoorRows
import Derived.Test.YtlfnpkjfnafeaaaDoorZ1
import Derived.WalkKit
import Derived.ProofKit
import Derived.OpenShut
import Derived.ShutString
import Derived.ChangeOld
import Derived.Deep.DeepHandedRow
/- Nodes; the law's own awake of chapter 7; the walk of RequestValid. -/
namespace Go.Proofs.YtlfnpkjfnafeaaaDoor
open Go.RowKit
set_option linter.unusedVariables false
set_option linter.unusedSimpArgs false
set_option maxRecDepth 100000
set_option maxHeartbeats 1600000 in
theorem request.Nodes_c (e : CL.Ex) (w : World) (B : Nat) (cs : List Value) (hR : Rd w B e cs) (hB : B ≤ w.heap.size) : Calls Tryd.prog 27 #[.agg cs.toArray] w fun r w' => r = .returned (.int .i64 (CL.nod e : Nat)) ∧ Ext w w' := by
  obtain ⟨k, s, m, u, A, l, c, rfl⟩ := hR.shape
  have hx0 : Ext w ((w.alloc (.cells #[.int .i64 k, .string s, .int .i64 m, .int .i64 u, .slice A l c] 28)).alloc (.cells #[.int .i64 0] 3)) := by go_grown
  have hb0 : Blk ((w.alloc (.cells #[.int .i64 k, .string s, .int .i64 m, .int .i64 u, .slice A l c] 28)).alloc (.cells #[.int .i64 0] 3)) (w.heap.size + 1) 3 #[.int .i64 (0 : Nat)] := by
    have h := Blk.new (w.alloc (.cells #[.int .i64 k, .string s, .int .i64 m, .int .i64 u, .slice A l c] 28)) 3 #[.int .i64 0]
    rw [World.size_alloc] at h; exact h
  have HM := request.measure_c e _ B _ 1 0 (w.heap.size + 1) 1 rfl (hR.ext hx0 hB) (by omega) hb0 (by omega) (by omega)
  by_cases h : CL.small e = true
  · have hn : CL.nod e = CL.size e := if_pos h
    have hd := CL.depth_pos e
    rw [CL.meas_small h] at HM
    simp only at HM
    have hq : (((CL.depth e : Nat) : Int) == 0) = false := beq_eq_false_iff_ne.2 (by omega)
    have hn := Lib.hid hn
    go_enter Tryd.func27, Tryd.ntmps27
    go_wp2_with (go_at_call 54; refine HM.mono ?_; rintro r w' ⟨rfl, hb', ho'⟩; have e0 := hb'.cell 0; simp only [List.getElem?_toArray, List.getElem?_cons_zero] at e0)
    go_ret
    refine ⟨ret_int ?_, hx0.only ho' (by omega)⟩
    rw [hn.out]
  · have hn : CL.nod e = 0 := if_neg h
    have h0 := CL.meas_great (e := e) (by simpa using h)
    rw [h0] at HM
    have hn := Lib.hid hn
    go_enter Tryd.func27, Tryd.ntmps27
    go_wp2_with (go_at_call 54; refine HM.mono ?_; rintro r w' ⟨rfl, hb', ho'⟩)
    go_ret
    refine ⟨ret_int ?_, hx0.only ho' (by omega)⟩
    rw [hn.out]; rfl
/-- the example of the chapter -/
def ex7 : List UInt8 := [97, 110, 121, 40, 97, 58, 88, 44, 112, 42, 50, 41, 32, 108, 105, 109, 105, 116, 32, 57]
def ex7q : CL.Rq := ⟨.mk 1 CL.noAt [.mk 0 ⟨[97], ⟨5, 0⟩⟩ [], .mk 0 ⟨[112], ⟨0, 2⟩⟩ []], 0, 9⟩
theorem ex7_parse : CL.parseS ex7 = (ex7q, 0, 0) := by kernel_rfl
theorem ex7_valid : CL.validQ ex7q = true := by decide +kernel
theorem ex7_fmt : CL.fmt? ex7q = [97, 110, 121, 40, 97, 58, 88, 44, 32, 112, 42, 50, 41, 32, 108, 105, 109, 105, 116, 32, 57] := by decide +kernel
theorem ex7_nod : CL.nod ex7q.e = 3 := by decide +kernel
set_option maxHeartbeats 1600000 in
theorem awake7_c (w : World) (hT : T10 w) : Calls Tryd.prog 12 #[] w fun e w' => e = .returned (.bool true) ∧ Ext w w' := by
  have HP := request.Parse_c ex7 w (by decide)
  unfold ParsePost at HP
  rw [ex7_parse] at HP
  simp only at HP
  go_enter Tryd.func12, Tryd.ntmps12
  go_wp2_with fail
  refine HP.mono ?_
  rintro r w1 ⟨cs, rfl, hR, hx1⟩
  have hR := hR.rd
  obtain ⟨k, s, m, u, A, l, c, rfl⟩ := hR.shape
  have hRx := fun w' hx => hR.ext (w' := w') hx (Nat.le_refl _)
  have bR := Blk.new w1 30 #[.int .i64 k, .string s, .int .i64 m, .int .i64 u, .slice A l c, .int .i64 ex7q.p, .int .i64 ex7q.m]
  have hxn := Ext.new w1 (.cells #[.int .i64 k, .string s, .int .i64 m, .int .i64 u, .slice A l c, .int .i64 ex7q.p, .int .i64 ex7q.m] 30)
  go_wp2_with fail
  generalize w1.alloc (.cells #[.int .i64 k, .string s, .int .i64 m, .int .i64 u, .slice A l c, .int .i64 ex7q.p, .int .i64 ex7q.m] 30) = W at *
  have HV := request.Valid_c ex7q W _ _ (hRx W hxn) hxn.size
  rw [ex7_valid] at HV
  have HF := fun W1 (hx : Ext W W1) => request.Format_c ex7q W1 _ _ (hRx W1 (hxn.tr hx)) (hxn.tr hx).size (hT.ext (hx1.tr (hxn.tr hx)))
  rw [ex7_fmt] at HF
  have HN := fun W1 (hx : Ext W W1) => request.Nodes_c ex7q.e W1 _ _ (hRx W1 (hxn.tr hx)) (hxn.tr hx).size
  rw [ex7_nod] at HN
  simp only [List.cons_append, List.nil_append] at HV HF HN
  obtain ⟨e0, e1, e2, e3, e4, e5, e6⟩ := bR.c7
  go_wp2_with (first
    | (go_at_call 15; refine HV.mono ?_; rintro r w2 ⟨rfl, hx2⟩; clear HV e0 e1 e2 e3 e4 e5 e6; obtain ⟨e0, e1, e2, e3, e4, e5, e6⟩ := (bR.ext hx2).c7; have HF := HF _ hx2)
    | (go_at_call 20; refine HF.mono ?_; rintro r w3 ⟨rfl, hx3⟩; replace hx3 := hx2.tr hx3; clear e0 e1 e2 e3 e4 e5 e6; obtain ⟨e0, e1, e2, e3, e4, e5, e6⟩ := (bR.ext hx3).c7; have HN := HN _ hx3)
    | (go_at_call 27; refine HN.mono ?_; rintro r w4 ⟨rfl, hx4⟩; replace hx4 := hx1.tr (hxn.tr (hx3.tr hx4))))
  go_ret
  exact ⟨rfl, hx4⟩
set_option maxHeartbeats 1600000 in
theorem RequestValid_w (q : CL.Rq) (cs : List Value) (w : World) (hT : T10 w) (hR : Rd w w.heap.size q.e cs) :
    Calls Tryd.prog 3 #[.agg (cs ++ [Value.int .i64 q.p, Value.int .i64 q.m]).toArray] w fun r w' => r = .returned (.bool true) ∧ Ext w w' := by
  obtain ⟨k, s, m, u, A1, l1, c1, rfl⟩ := hR.shape
  obtain ⟨bE, hx0⟩ := box1 w #[.int .i64 k, .string s, .int .i64 m, .int .i64 u, .slice A1 l1 c1, .int .i64 q.p, .int .i64 q.m] 30
  have hz0 := hx0.size
  simp only [List.cons_append, List.nil_append]
  go_enter Tryd.func3, Tryd.ntmps3
  go_wp2_with fail
  generalize (w.alloc (.cells #[.int .i64 k, .string s, .int .i64 m, .int .i64 u, .slice A1 l1 c1, .int .i64 q.p, .int .i64 q.m] 30)) = W at *
  obtain ⟨e0, e1, e2, e3, e4, e5, e6⟩ := bE.c7
  have q0 := ExtOf.cell e0
  have q1 := ExtOf.cell e1
  have q2 := ExtOf.cell e2
  have q3 := ExtOf.cell e3
  have q4 := ExtOf.cell e4
  have q5 := ExtOf.cell e5
  have q6 := ExtOf.cell e6
  have hRx := fun x : ExtOf W => (hR.ext hx0 (Nat.le_refl _)).ext x.ext hz0
  have hZx := fun x : ExtOf W => Nat.le_trans hz0 x.ext.size
  have HA := Lib.hid (fun x : ExtOf W => awake7_c x.val ((hT.ext hx0).ext x.ext))
  have HE := Lib.hid (fun x : ExtOf W => request.ValidExpr_c q.e _ _ _ (hRx x) (hZx x))
  have HE2 := Lib.hid (fun x : ExtOf W => clusterlocksref07.ValidExpr_c q.e _ _ _ (hRx x) (hZx x))
  have HV := Lib.hid (fun x : ExtOf W => request.Valid_c q _ _ _ (hRx x) (hZx x))
  have HV2 := Lib.hid (fun x : ExtOf W => clusterlocksref07.Valid_c q _ _ _ (hRx x) (hZx x))
  refine wp_region_ext_lit (by kernel_rfl) (by kernel_rfl) ?_
  repeat (go_big_quiet_step ((first
    | (go_at_call 12; exact xqX (HA.out _))
    | (go_at_call 13; exact xqX (HE.out _))
    | (go_at_call 14; exact xqX (HE2.out _))
    | (go_at_call 15; exact xqX (HV.out _))
    | (go_at_call 16; exact xqX (HV2.out _)))))
  refine wpQuiet_nil ?_
  intro wq hw'
  obtain ⟨⟨wq', hxq⟩, hw''⟩ := hw'
  subst hw''
  go_wp2
  go_ret
  exact ⟨rfl, hx0.tr hxq⟩
end Go.Proofs.YtlfnpkjfnafeaaaDoor
/- What the final steps of chapter 8 share: expressions, sets and lists of resources out of the arguments. -/
namespace Go.Proofs.YtlfnpkjfnafeaaaDoor
open Go.ChangeShapes Go.WideShapes Go.ChangeAt Go.RowKit Go.Joins
set_option linter.unusedVariables false
set_option maxRecDepth 100000
set_option linter.unusedSimpArgs false
theorem own : ownKnob Tryd.prog.godebug = none := by kernel_rfl
theorem laidOut : laidOutB Tryd.prog = true := by kernel_rfl
theorem cellsInt : Tryd.prog.cellsOf 3 = 1 := by kernel_rfl
theorem cellsStr : Tryd.prog.cellsOf 9 = 1 := by kernel_rfl
theorem cellsAmt : Tryd.prog.cellsOf 23 = 2 := by kernel_rfl
theorem cellsAtom : Tryd.prog.cellsOf 25 = 3 := by kernel_rfl
theorem cellsExpr : Tryd.prog.cellsOf 28 = 5 := by kernel_rfl
theorem cellsKids : Tryd.prog.cellsOf 26 = 1 := by kernel_rfl
section
variable {H : Type} {enc : TypeId × Value → H} {w : World} {base : Nat} {sp : Nat → Bool} {held : Bool}
theorem fld {xs : List (DataW H × List MemPlace)} {n i k : Nat} (hl : xs.length = n) (hi : i < n) {o : Option (DataW H × List MemPlace)} (h : o = xs[i]?) : ∃ x, o = some x := ⟨_, h.trans (List.getElem?_eq_getElem (by omega))⟩
theorem trod_amt {n : Nat} {cs : List Value} {y : DataW H × List MemPlace} (h : DataW.trod enc Tryd.prog w base sp held n 23 cs = some y) : ∃ a b : Int, cs = [.int .i64 a, .int .i64 b] := by
  obtain ⟨xs, m, rfl, hx, hcl, hxl, hi⟩ := DataW.trod_struct Tryd.underlying23 h
  rw [cellsAmt] at hcl
  obtain ⟨c0, c1, rfl⟩ : ∃ c0 c1, cs = [c0, c1] := by
    match cs, hcl with
    | [c0, c1], _ => exact ⟨c0, c1, rfl⟩
  obtain ⟨x0, h0⟩ := fld (i := 0) (k := 0) hxl (by decide) (hi 0 _ rfl)
  obtain ⟨x1, h1⟩ := fld (i := 1) (k := 0) hxl (by decide) (hi 1 _ rfl)
  obtain ⟨a0, e0, _⟩ := DataW.trod_int Tryd.underlying3 h0
  obtain ⟨a1, e1, _⟩ := DataW.trod_int Tryd.underlying3 h1
  simp only [List.getElem_toArray, List.getElem_cons_zero, List.getElem_cons_succ, cellsInt, cellsStr, cellsAmt, cellsAtom, cellsKids, List.drop, List.take, List.cons.injEq, and_true] at e0 e1
  exact ⟨a0, a1, by rw [e0, e1]⟩
theorem trod_atom {n : Nat} {cs : List Value} {y : DataW H × List MemPlace} (h : DataW.trod enc Tryd.prog w base sp held n 25 cs = some y) : ∃ (s : List UInt8) (a b : Int), cs = [.string ⟨s.toArray⟩, .int .i64 a, .int .i64 b] ∧ s.length ≤ maxLen := by
  obtain ⟨xs, m, rfl, hx, hcl, hxl, hi⟩ := DataW.trod_struct Tryd.underlying25 h
  rw [cellsAtom] at hcl
  obtain ⟨c0, c1, c2, rfl⟩ : ∃ c0 c1 c2, cs = [c0, c1, c2] := by
    match cs, hcl with
    | [c0, c1, c2], _ => exact ⟨c0, c1, c2, rfl⟩
  obtain ⟨x0, h0⟩ := fld (i := 0) (k := 0) hxl (by decide) (hi 0 _ rfl)
  obtain ⟨x1, h1⟩ := fld (i := 1) (k := 0) hxl (by decide) (hi 1 _ rfl)
  obtain ⟨s, e0, hs⟩ := trod_str Tryd.underlying9 h0
  obtain ⟨a0, a1, e1⟩ := trod_amt h1
  simp only [List.getElem_toArray, List.getElem_cons_zero, List.getElem_cons_succ, cellsInt, cellsStr, cellsAmt, cellsAtom, cellsKids, List.drop, List.take, List.cons.injEq, and_true] at e0 e1
  exact ⟨s, a0, a1, by rw [e0, e1.1, e1.2], hs⟩
theorem trod_expr : ∀ (fuel : Nat) (cs : List Value) (x : DataW H × List MemPlace), DataW.trod enc Tryd.prog w base sp held fuel 28 cs = some x → ∃ e, Rd w w.heap.size e cs := by
  intro fuel
  induction fuel using Nat.strongRecOn with
  | _ fuel ih =>
    intro cs x h
    obtain ⟨xs, m, rfl, hx, hcl, hxl, hi⟩ := DataW.trod_struct Tryd.underlying28 h
    rw [cellsExpr] at hcl
    obtain ⟨c0, c1, c2, c3, c4, rfl⟩ : ∃ c0 c1 c2 c3 c4, cs = [c0, c1, c2, c3, c4] := by
      match cs, hcl with
      | [c0, c1, c2, c3, c4], _ => exact ⟨c0, c1, c2, c3, c4, rfl⟩
    obtain ⟨x0, h0⟩ := fld (i := 0) (k := 0) hxl (by decide) (hi 0 _ rfl)
    obtain ⟨x1, h1⟩ := fld (i := 1) (k := 0) hxl (by decide) (hi 1 _ rfl)
    obtain ⟨x2, h2⟩ := fld (i := 2) (k := 0) hxl (by decide) (hi 2 _ rfl)
    obtain ⟨k, e0, _⟩ := DataW.trod_int Tryd.underlying3 h0
    obtain ⟨s, a, b, e1, hs⟩ := trod_atom h1
    obtain ⟨A, vs, cap, e2, hl, hm, hsit, hv⟩ := open_rows Tryd.underlying26 cellsExpr (by decide) h2
    simp only [List.getElem_toArray, List.getElem_cons_zero, List.getElem_cons_succ, cellsInt, cellsStr, cellsAmt, cellsAtom, cellsKids, List.drop, List.take, List.cons.injEq, and_true] at e0 e1 e2
    obtain ⟨e1a, e1b, e1c⟩ := e1
    subst e0 e1a e1b e1c e2
    have hk : ∀ vs : List (List Value), (∀ v ∈ vs, v.length = 5 ∧ ∃ n y, n < m ∧ DataW.trod enc Tryd.prog w base sp held n 28 v = some y) → ∃ kids : List CL.Ex, kids.length = vs.length ∧ ∀ i (h1 : i < kids.length) (h2 : i < vs.length), Rd w w.heap.size kids[i] vs[i] := by
      intro vs
      induction vs with
      | nil => intro _; exact ⟨[], rfl, fun i h => by simp at h⟩
      | cons v vs ihv =>
        intro hv
        obtain ⟨_, n, y, hn, hy⟩ := hv v (by simp)
        obtain ⟨e, he⟩ := ih n (by omega) v y hy
        obtain ⟨ks, hks, hr⟩ := ihv (fun v hv' => hv v (by simp [hv']))
        refine ⟨e :: ks, by simp [hks], fun i h1 h2 => ?_⟩
        cases i with
        | zero => exact he
        | succ i => exact hr i (by simpa using h1) (by simpa using h2)
    obtain ⟨kids, hkl, hkr⟩ := hk vs hv
    refine ⟨.mk k ⟨s, ⟨a, b⟩⟩ kids, ?_⟩
    rw [← hkl]
    exact .mk k s a b kids A cap vs hs (by omega) (by omega) hkl.symm (fun v hv' => (hv v hv').1) (SitsB.of hsit) hkr
theorem open_expr {r : Reach} {b0 : Nat} {v : Value} {d : DataW H} {p : List MemPlace} (hv : Value.okWide Tryd.prog w r b0 28 v) (h : DataW.Trod enc Tryd.prog w base sp held 28 v d p) :
    ∃ (e : CL.Ex) (cs : List Value), v = .agg cs.toArray ∧ Rd w w.heap.size e cs := by
  obtain ⟨cs, rfl, hsz⟩ := okWide_struct Tryd.underlying28 hv
  obtain ⟨fuel, hf⟩ := h
  obtain ⟨e, he⟩ := trod_expr fuel _ _ hf
  exact ⟨e, cs.toList, by simp, by simpa [Value.cells] using he⟩
theorem cellsBool : Tryd.prog.cellsOf 4 = 1 := by kernel_rfl
end
end Go.Proofs.YtlfnpkjfnafeaaaDoor
/- What the final steps of chapter 7 share: requests out of the arguments, the table of the powers of ten, a world that holds the listed tables. -/
namespace Go.Proofs.YtlfnpkjfnafeaaaDoor
open Go.ChangeShapes Go.WideShapes Go.ChangeAt Go.RowKit Go.Joins
set_option linter.unusedVariables false
set_option linter.unusedSimpArgs false
set_option maxRecDepth 100000
theorem gPow : Tryd.prog.globalNamed "internal/strconv.uint64pow10" = some 0 := by kernel_rfl
theorem gPowType : (Tryd.prog.globals[0]?).map (·.type) = some 137 := by kernel_rfl
theorem cellsPow : Tryd.prog.cellsOf 137 = 20 := by kernel_rfl
theorem cellsU64 : Tryd.prog.cellsOf 131 = 1 := by kernel_rfl
theorem powData : (Rows.laid_internal_strconv_uint64pow10 : DataW Unit) = Lib.tabData .u64 Lib.pow10Tab := by kernel_rfl
theorem tab7_of {W : World} (h0 : laidMetH Tryd.prog [("math/bits.deBruijn32tab", Rows.laid_math_bits_deBruijn32tab), ("math/bits.deBruijn64tab", Rows.laid_math_bits_deBruijn64tab), ("internal/strconv.uint64pow10", Rows.laid_internal_strconv_uint64pow10)] W) : T10 W := by
  have h : laidMet Tryd.prog [("math/bits.deBruijn32tab", Rows.laid_math_bits_deBruijn32tab), ("math/bits.deBruijn64tab", Rows.laid_math_bits_deBruijn64tab), ("internal/strconv.uint64pow10", Rows.laid_internal_strconv_uint64pow10)] W := h0
  obtain ⟨ps, ⟨g0, t0, c0, f0, p0, q0, _, _, _, _, ⟨g1, t1, c1, f1, p1, q1, _, _, _, _, ⟨g', t', cs, fuel, p, q, hg', ht', hvar, hd, _, _⟩, _⟩, _⟩, _⟩ := h
  obtain rfl := Option.some.inj (gPow.symm.trans hg')
  obtain rfl := Option.some.inj (gPowType.symm.trans ht')
  rw [powData] at hd
  unfold T10 Lib.TabIs
  rw [hvar, ← Lib.cells_of_tab Tryd.underlying137 Tryd.underlying131 cellsU64 cellsPow hd]
theorem cellsReq : Tryd.prog.cellsOf 30 = 7 := by kernel_rfl
section
variable {H : Type} {enc : TypeId × Value → H} {w : World} {base : Nat} {sp : Nat → Bool} {held : Bool}
theorem open_req {r : Reach} {b0 : Nat} {v : Value} {d : DataW H} {p : List MemPlace} (hv : Value.okWide Tryd.prog w r b0 30 v) (h : DataW.Trod enc Tryd.prog w base sp held 30 v d p) :
    ∃ (q : CL.Rq) (cs : List Value), v = .agg (cs ++ [Value.int .i64 q.p, Value.int .i64 q.m]).toArray ∧ Rd w w.heap.size q.e cs := by
  obtain ⟨vs, rfl, hsz⟩ := okWide_struct Tryd.underlying30 hv
  obtain ⟨fuel, hf⟩ := h
  simp only [Value.cells] at hf
  obtain ⟨xs, m, rfl, hx, hcl, hxl, hi⟩ := DataW.trod_struct Tryd.underlying30 hf
  rw [cellsReq] at hcl
  obtain ⟨cs, hcs⟩ : ∃ cs, vs = List.toArray cs := ⟨vs.toList, by simp⟩
  subst hcs
  simp only [List.toList_toArray] at hcl hi
  obtain ⟨c0, c1, c2, c3, c4, c5, c6, rfl⟩ : ∃ c0 c1 c2 c3 c4 c5 c6, cs = [c0, c1, c2, c3, c4, c5, c6] := by
    match cs, hcl with
    | [c0, c1, c2, c3, c4, c5, c6], _ => exact ⟨c0, c1, c2, c3, c4, c5, c6, rfl⟩
  obtain ⟨x0, h0⟩ := fld (i := 0) (k := 0) hxl (by decide) (hi 0 _ rfl)
  obtain ⟨x1, h1⟩ := fld (i := 1) (k := 0) hxl (by decide) (hi 1 _ rfl)
  obtain ⟨x2, h2⟩ := fld (i := 2) (k := 0) hxl (by decide) (hi 2 _ rfl)
  obtain ⟨e, he⟩ := trod_expr _ _ _ h0
  obtain ⟨a1, e1, _⟩ := DataW.trod_int Tryd.underlying3 h1
  obtain ⟨a2, e2, _⟩ := DataW.trod_int Tryd.underlying3 h2
  simp only [List.getElem_toArray, List.getElem_cons_zero, List.getElem_cons_succ, cellsInt, cellsExpr, List.drop, List.take, List.cons.injEq, and_true] at he e1 e2
  refine ⟨⟨e, a1, a2⟩, [c0, c1, c2, c3, c4], ?_, he⟩
  rw [e1, e2]; rfl
end
/-- a world that holds the tables that the program's text lays -/
def lay1 : Obj → Obj
  | .cells _ t frozen => .cells #[.int .u64 1, .int .u64 10, .int .u64 100, .int .u64 1000, .int .u64 10000, .int .u64 100000, .int .u64 1000000, .int .u64 10000000, .int .u64 100000000, .int .u64 1000000000, .int .u64 10000000000, .int .u64 100000000000, .int .u64 1000000000000, .int .u64 10000000000000, .int .u64 100000000000000, .int .u64 1000000000000000, .int .u64 10000000000000000, .int .u64 100000000000000000, .int .u64 1000000000000000000, .int .u64 10000000000000000000] t frozen
  | o => o
def lay2 : Obj → Obj
  | .cells _ t frozen => .cells #[.int .u8 0, .int .u8 1, .int .u8 28, .int .u8 2, .int .u8 29, .int .u8 14, .int .u8 24, .int .u8 3, .int .u8 30, .int .u8 22, .int .u8 20, .int .u8 15, .int .u8 25, .int .u8 17, .int .u8 4, .int .u8 8, .int .u8 31, .int .u8 27, .int .u8 13, .int .u8 23, .int .u8 21, .int .u8 19, .int .u8 16, .int .u8 7, .int .u8 26, .int .u8 12, .int .u8 18, .int .u8 6, .int .u8 11, .int .u8 5, .int .u8 10, .int .u8 9] t frozen
  | o => o
def lay3 : Obj → Obj
  | .cells _ t frozen => .cells #[.int .u8 0, .int .u8 1, .int .u8 56, .int .u8 2, .int .u8 57, .int .u8 49, .int .u8 28, .int .u8 3, .int .u8 61, .int .u8 58, .int .u8 42, .int .u8 50, .int .u8 38, .int .u8 29, .int .u8 17, .int .u8 4, .int .u8 62, .int .u8 47, .int .u8 59, .int .u8 36, .int .u8 45, .int .u8 43, .int .u8 51, .int .u8 22, .int .u8 53, .int .u8 39, .int .u8 33, .int .u8 30, .int .u8 24, .int .u8 18, .int .u8 12, .int .u8 5, .int .u8 63, .int .u8 55, .int .u8 48, .int .u8 27, .int .u8 60, .int .u8 41, .int .u8 37, .int .u8 16, .int .u8 46, .int .u8 35, .int .u8 44, .int .u8 21, .int .u8 52, .int .u8 32, .int .u8 23, .int .u8 11, .int .u8 54, .int .u8 26, .int .u8 40, .int .u8 15, .int .u8 34, .int .u8 20, .int .u8 31, .int .u8 10, .int .u8 25, .int .u8 14, .int .u8 19, .int .u8 9, .int .u8 13, .int .u8 8, .int .u8 7, .int .u8 6] t frozen
  | o => o
noncomputable def laidWorld7 (os : Os) : World :=
  { World.holding Tryd.prog os ⟨#[], #[], []⟩ with heap := ((((World.holding Tryd.prog os ⟨#[], #[], []⟩).heap.modify 0 lay1).modify 1 lay2).modify 2 lay3) }
end Go.Proofs.YtlfnpkjfnafeaaaDoor
