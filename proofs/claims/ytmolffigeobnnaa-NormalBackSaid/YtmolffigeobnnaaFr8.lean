
/- What the final steps of chapter 8 share: expressions, sets and lists of resources out of the arguments. -/
import Derived.Test.YtmolffigeobnnaaRows
import Derived.Test.YtmolffigeobnnaaZ1
import Derived.WalkKit
import Derived.ProofKit
import Derived.OpenShut
import Derived.ShutString
import Derived.ChangeOld
import Derived.Deep.DeepHandedRow
namespace Go.Proofs.Ytmolffigeobnnaa
open Go.ChangeShapes Go.WideShapes Go.ChangeAt Go.RowKit Go.Joins
set_option linter.unusedVariables false
set_option maxRecDepth 100000
set_option linter.unusedSimpArgs false
theorem own : ownKnob Try.prog.godebug = none := by kernel_rfl
theorem laidOut : laidOutB Try.prog = true := by kernel_rfl
theorem cellsInt : Try.prog.cellsOf 3 = 1 := by kernel_rfl
theorem cellsStr : Try.prog.cellsOf 9 = 1 := by kernel_rfl
theorem cellsAmt : Try.prog.cellsOf 23 = 2 := by kernel_rfl
theorem cellsAtom : Try.prog.cellsOf 25 = 3 := by kernel_rfl
theorem cellsExpr : Try.prog.cellsOf 28 = 5 := by kernel_rfl
theorem cellsKids : Try.prog.cellsOf 26 = 1 := by kernel_rfl
section
variable {H : Type} {enc : TypeId × Value → H} {w : World} {base : Nat} {sp : Nat → Bool} {held : Bool}
theorem fld {xs : List (DataW H × List MemPlace)} {n i k : Nat} (hl : xs.length = n) (hi : i < n) {o : Option (DataW H × List MemPlace)} (h : o = xs[i]?) : ∃ x, o = some x := ⟨_, h.trans (List.getElem?_eq_getElem (by omega))⟩
theorem trod_amt {n : Nat} {cs : List Value} {y : DataW H × List MemPlace} (h : DataW.trod enc Try.prog w base sp held n 23 cs = some y) : ∃ a b : Int, cs = [.int .i64 a, .int .i64 b] := by
  obtain ⟨xs, m, rfl, hx, hcl, hxl, hi⟩ := DataW.trod_struct Try.underlying23 h
  rw [cellsAmt] at hcl
  obtain ⟨c0, c1, rfl⟩ : ∃ c0 c1, cs = [c0, c1] := by
    match cs, hcl with
    | [c0, c1], _ => exact ⟨c0, c1, rfl⟩
  obtain ⟨x0, h0⟩ := fld (i := 0) (k := 0) hxl (by decide) (hi 0 _ rfl)
  obtain ⟨x1, h1⟩ := fld (i := 1) (k := 0) hxl (by decide) (hi 1 _ rfl)
  obtain ⟨a0, e0, _⟩ := DataW.trod_int Try.underlying3 h0
  obtain ⟨a1, e1, _⟩ := DataW.trod_int Try.underlying3 h1
  simp only [List.getElem_toArray, List.getElem_cons_zero, List.getElem_cons_succ, cellsInt, cellsStr, cellsAmt, cellsAtom, cellsKids, List.drop, List.take, List.cons.injEq, and_true] at e0 e1
  exact ⟨a0, a1, by rw [e0, e1]⟩
theorem trod_atom {n : Nat} {cs : List Value} {y : DataW H × List MemPlace} (h : DataW.trod enc Try.prog w base sp held n 25 cs = some y) : ∃ (s : List UInt8) (a b : Int), cs = [.string ⟨s.toArray⟩, .int .i64 a, .int .i64 b] ∧ s.length ≤ maxLen := by
  obtain ⟨xs, m, rfl, hx, hcl, hxl, hi⟩ := DataW.trod_struct Try.underlying25 h
  rw [cellsAtom] at hcl
  obtain ⟨c0, c1, c2, rfl⟩ : ∃ c0 c1 c2, cs = [c0, c1, c2] := by
    match cs, hcl with
    | [c0, c1, c2], _ => exact ⟨c0, c1, c2, rfl⟩
  obtain ⟨x0, h0⟩ := fld (i := 0) (k := 0) hxl (by decide) (hi 0 _ rfl)
  obtain ⟨x1, h1⟩ := fld (i := 1) (k := 0) hxl (by decide) (hi 1 _ rfl)
  obtain ⟨s, e0, hs⟩ := trod_str Try.underlying9 h0
  obtain ⟨a0, a1, e1⟩ := trod_amt h1
  simp only [List.getElem_toArray, List.getElem_cons_zero, List.getElem_cons_succ, cellsInt, cellsStr, cellsAmt, cellsAtom, cellsKids, List.drop, List.take, List.cons.injEq, and_true] at e0 e1
  exact ⟨s, a0, a1, by rw [e0, e1.1, e1.2], hs⟩
theorem trod_expr : ∀ (fuel : Nat) (cs : List Value) (x : DataW H × List MemPlace), DataW.trod enc Try.prog w base sp held fuel 28 cs = some x → ∃ e, Rd w w.heap.size e cs := by
  intro fuel
  induction fuel using Nat.strongRecOn with
  | _ fuel ih =>
    intro cs x h
    obtain ⟨xs, m, rfl, hx, hcl, hxl, hi⟩ := DataW.trod_struct Try.underlying28 h
    rw [cellsExpr] at hcl
    obtain ⟨c0, c1, c2, c3, c4, rfl⟩ : ∃ c0 c1 c2 c3 c4, cs = [c0, c1, c2, c3, c4] := by
      match cs, hcl with
      | [c0, c1, c2, c3, c4], _ => exact ⟨c0, c1, c2, c3, c4, rfl⟩
    obtain ⟨x0, h0⟩ := fld (i := 0) (k := 0) hxl (by decide) (hi 0 _ rfl)
    obtain ⟨x1, h1⟩ := fld (i := 1) (k := 0) hxl (by decide) (hi 1 _ rfl)
    obtain ⟨x2, h2⟩ := fld (i := 2) (k := 0) hxl (by decide) (hi 2 _ rfl)
    obtain ⟨k, e0, _⟩ := DataW.trod_int Try.underlying3 h0
    obtain ⟨s, a, b, e1, hs⟩ := trod_atom h1
    obtain ⟨A, vs, cap, e2, hl, hm, hsit, hv⟩ := open_rows Try.underlying26 cellsExpr (by decide) h2
    simp only [List.getElem_toArray, List.getElem_cons_zero, List.getElem_cons_succ, cellsInt, cellsStr, cellsAmt, cellsAtom, cellsKids, List.drop, List.take, List.cons.injEq, and_true] at e0 e1 e2
    obtain ⟨e1a, e1b, e1c⟩ := e1
    subst e0 e1a e1b e1c e2
    have hk : ∀ vs : List (List Value), (∀ v ∈ vs, v.length = 5 ∧ ∃ n y, n < m ∧ DataW.trod enc Try.prog w base sp held n 28 v = some y) → ∃ kids : List CL.Ex, kids.length = vs.length ∧ ∀ i (h1 : i < kids.length) (h2 : i < vs.length), Rd w w.heap.size kids[i] vs[i] := by
      intro vs
      induction vs with
      | nil => intro _; exact ⟨[], rfl, fun i h => by simp at h⟩
      | cons v vs ihv =>
        intro hv
        obtain ⟨_, n, y, hn, hy⟩ := hv v (by simp)
        obtain ⟨e, he⟩ := ih n (by omega) v y hy
        obtain ⟨ks, hks, hr⟩ := ihv (fun v hv' => hv v (by simp [hv']))
        refine ⟨e :: ks, by simp [hks], fun i h1 h2 => ?_⟩
        cases i with
        | zero => exact he
        | succ i => exact hr i (by simpa using h1) (by simpa using h2)
    obtain ⟨kids, hkl, hkr⟩ := hk vs hv
    refine ⟨.mk k ⟨s, ⟨a, b⟩⟩ kids, ?_⟩
    rw [← hkl]
    exact .mk k s a b kids A cap vs hs (by omega) (by omega) hkl.symm (fun v hv' => (hv v hv').1) (SitsB.of hsit) hkr
theorem open_expr {r : Reach} {b0 : Nat} {v : Value} {d : DataW H} {p : List MemPlace} (hv : Value.okWide Try.prog w r b0 28 v) (h : DataW.Trod enc Try.prog w base sp held 28 v d p) :
    ∃ (e : CL.Ex) (cs : List Value), v = .agg cs.toArray ∧ Rd w w.heap.size e cs := by
  obtain ⟨cs, rfl, hsz⟩ := okWide_struct Try.underlying28 hv
  obtain ⟨fuel, hf⟩ := h
  obtain ⟨e, he⟩ := trod_expr fuel _ _ hf
  exact ⟨e, cs.toList, by simp, by simpa [Value.cells] using he⟩
theorem cellsBool : Try.prog.cellsOf 4 = 1 := by kernel_rfl
theorem open_bls {A : Option Addr} {len cap : Nat} {d : DataW H} {p : List MemPlace} (h : DataW.Trod enc Try.prog w base sp held 34 (.slice A len cap) d p) : ∃ l : List Bool, len = l.length ∧ len ≤ cap ∧ cap ≤ maxLen ∧ Sits w A (l.map Value.bool) := by
  obtain ⟨fuel, hf⟩ := h
  obtain ⟨A', l, cap', e, h1, h2, h3⟩ := open_list (fun b : Bool => [Value.bool b]) Try.underlying34 cellsBool (by decide) (fun n v y h => by
    obtain ⟨b, e, _⟩ := DataW.trod_bool Try.underlying4 h
    exact ⟨b, e⟩) hf
  simp only [Value.cells, List.cons.injEq, Value.slice.injEq, and_true] at e
  obtain ⟨rfl, rfl, rfl⟩ := e
  refine ⟨l, rfl, h1, h2, ?_⟩
  rw [List.map_eq_flatMap]; exact h3
end
end Go.Proofs.Ytmolffigeobnnaa
