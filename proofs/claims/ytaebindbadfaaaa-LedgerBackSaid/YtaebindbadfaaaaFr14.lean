
/- What the final steps of chapter 14 share: amounts, entries, ledgers and lists of numbers out of the arguments. -/
import Derived.Test.YtaebindbadfaaaaRows
import Derived.Test.YtaebindbadfaaaaLe
import Derived.Test.YtaebindbadfaaaaOp
import Derived.WalkKit
import Derived.ProofKit
import Derived.OpenShut
import Derived.ShutString
import Derived.ChangeOld
import Derived.Deep.DeepHandedRow
namespace Go.Proofs.Ytaebindbadfaaaa
open Go.ChangeShapes Go.WideShapes Go.ChangeAt Go.RowKit Go.Joins
set_option linter.unusedVariables false
set_option linter.unusedSimpArgs false
set_option maxRecDepth 10000
theorem own : ownKnob Try.prog.godebug = none := by kernel_rfl
theorem laidOut : laidOutB Try.prog = true := by kernel_rfl
theorem cellsInt : Try.prog.cellsOf 3 = 1 := by kernel_rfl
theorem cellsStr : Try.prog.cellsOf 9 = 1 := by kernel_rfl
theorem cellsAmt : Try.prog.cellsOf 23 = 2 := by kernel_rfl
theorem cellsEnt : Try.prog.cellsOf 33 = 5 := by kernel_rfl
theorem cellsSav : Try.prog.cellsOf 69 = 2 := by kernel_rfl
section
variable {H : Type} {enc : TypeId × Value → H} {w : World} {base : Nat} {sp : Nat → Bool} {held : Bool}
theorem fld {xs : List (DataW H × List MemPlace)} {n i k : Nat} (hl : xs.length = n) (hi : i < n) {o : Option (DataW H × List MemPlace)} (h : o = xs[i]?) : ∃ x, o = some x := ⟨_, h.trans (List.getElem?_eq_getElem (by omega))⟩
theorem open_amt {r : Reach} {b0 : Nat} {v : Value} {d : DataW H} {p : List MemPlace} (hv : Value.okWide Try.prog w r b0 23 v) (h : DataW.Trod enc Try.prog w base sp held 23 v d p) :
    ∃ a b : Int, v = .agg #[.int .i64 a, .int .i64 b] := by
  obtain ⟨v0, v1, y0, y1, m, rfl, _, _, t0, t1⟩ := open_agg2 Try.underlying23 (by kernel_rfl) (by kernel_rfl) hv h
  obtain ⟨a1, e1, _⟩ := DataW.trod_int Try.underlying3 t0
  obtain ⟨a2, e2, _⟩ := DataW.trod_int Try.underlying3 t1
  simp only [List.cons.injEq, and_true] at e1 e2
  exact ⟨a1, a2, by rw [e1, e2]⟩
theorem trod_amt {n : Nat} {cs : List Value} {y : DataW H × List MemPlace} (h : DataW.trod enc Try.prog w base sp held n 23 cs = some y) : ∃ a : CL.Am, cs = [.int .i64 a.m, .int .i64 a.u] := by
  obtain ⟨xs, m, rfl, hx, hcl, hxl, hi⟩ := DataW.trod_struct Try.underlying23 h
  rw [cellsAmt] at hcl
  obtain ⟨c0, c1, rfl⟩ : ∃ c0 c1, cs = [c0, c1] := by
    match cs, hcl with
    | [c0, c1], _ => exact ⟨c0, c1, rfl⟩
  obtain ⟨x0, h0⟩ := fld (i := 0) (k := 0) hxl (by decide) (hi 0 _ rfl)
  obtain ⟨x1, h1⟩ := fld (i := 1) (k := 0) hxl (by decide) (hi 1 _ rfl)
  obtain ⟨a0, e0, _⟩ := DataW.trod_int Try.underlying3 h0
  obtain ⟨a1, e1, _⟩ := DataW.trod_int Try.underlying3 h1
  simp only [List.getElem_toArray, List.getElem_cons_zero, List.getElem_cons_succ, cellsInt, List.drop, List.take, List.cons.injEq, and_true] at e0 e1
  exact ⟨⟨a0, a1⟩, by rw [e0, e1]⟩
theorem trod_ent {n : Nat} {cs : List Value} {y : DataW H × List MemPlace} (h : DataW.trod enc Try.prog w base sp held n 33 cs = some y) : ∃ r : {r : CL.En // r.n.length ≤ maxLen}, cs = Ytaebindbadfaaaa.enc r.val := by
  obtain ⟨xs, m, rfl, hx, hcl, hxl, hi⟩ := DataW.trod_struct Try.underlying33 h
  rw [cellsEnt] at hcl
  obtain ⟨c0, c1, c2, c3, c4, rfl⟩ : ∃ c0 c1 c2 c3 c4, cs = [c0, c1, c2, c3, c4] := by
    match cs, hcl with
    | [c0, c1, c2, c3, c4], _ => exact ⟨c0, c1, c2, c3, c4, rfl⟩
  obtain ⟨x0, h0⟩ := fld (i := 0) (k := 0) hxl (by decide) (hi 0 _ rfl)
  obtain ⟨x1, h1⟩ := fld (i := 1) (k := 0) hxl (by decide) (hi 1 _ rfl)
  obtain ⟨x2, h2⟩ := fld (i := 2) (k := 0) hxl (by decide) (hi 2 _ rfl)
  obtain ⟨s, e0, hs⟩ := trod_str Try.underlying9 h0
  obtain ⟨a1, e1⟩ := trod_amt h1
  obtain ⟨a2, e2⟩ := trod_amt h2
  simp only [List.getElem_toArray, List.getElem_cons_zero, List.getElem_cons_succ, cellsInt, cellsStr, cellsAmt, List.drop, List.take, List.cons.injEq, and_true] at e0 e1 e2
  obtain ⟨e1a, e1b⟩ := e1
  obtain ⟨e2a, e2b⟩ := e2
  exact ⟨⟨⟨s, a1, a2⟩, hs⟩, by rw [e0, e1a, e1b, e2a, e2b]; rfl⟩
theorem trod_sav {n : Nat} {cs : List Value} {y : DataW H × List MemPlace} (h : DataW.trod enc Try.prog w base sp held n 69 cs = some y) : ∃ r : CL.Sv, cs = svc r := by
  obtain ⟨xs, m, rfl, hx, hcl, hxl, hi⟩ := DataW.trod_struct Try.underlying69 h
  rw [cellsSav] at hcl
  obtain ⟨c0, c1, rfl⟩ : ∃ c0 c1, cs = [c0, c1] := by
    match cs, hcl with
    | [c0, c1], _ => exact ⟨c0, c1, rfl⟩
  obtain ⟨x0, h0⟩ := fld (i := 0) (k := 0) hxl (by decide) (hi 0 _ rfl)
  obtain ⟨x1, h1⟩ := fld (i := 1) (k := 0) hxl (by decide) (hi 1 _ rfl)
  obtain ⟨a0, e0, _⟩ := DataW.trod_int Try.underlying3 h0
  obtain ⟨a1, e1, _⟩ := DataW.trod_int Try.underlying3 h1
  simp only [List.getElem_toArray, List.getElem_cons_zero, List.getElem_cons_succ, cellsInt, List.drop, List.take, List.cons.injEq, and_true] at e0 e1
  exact ⟨⟨a0, a1⟩, by rw [e0, e1]; rfl⟩
theorem open_led {r : Reach} {b0 : Nat} {v : Value} {d : DataW H} {p : List MemPlace} (hv : Value.okWide Try.prog w r b0 31 v) (h : DataW.Trod enc Try.prog w base sp held 31 v d p) :
    ∃ x : CL.Lg, LgV w v x ∧ (∀ e ∈ x.es, e.n.length ≤ maxLen) ∧ x.es.length ≤ maxLen ∧ x.ss.length ≤ maxLen := by
  obtain ⟨v0, v1, y0, y1, m, rfl, ok0, ok1, t0, t1⟩ := open_agg2 Try.underlying31 (by kernel_rfl) (by kernel_rfl) hv h
  obtain ⟨A, l, c, e, h1, h2, h3⟩ := open_list (fun r : {r : CL.En // r.n.length ≤ maxLen} => Ytaebindbadfaaaa.enc r.val) Try.underlying28 cellsEnt (by decide) (fun n v y h => trod_ent h) t0
  obtain ⟨A', l', c', e', h1', h2', h3'⟩ := open_list svc Try.underlying29 cellsSav (by decide) (fun n v y h => trod_sav h) t1
  simp only [Value.cells, List.cons.injEq, and_true] at e e'
  subst e e'
  refine ⟨⟨l.map (·.val), l'⟩, ⟨A, c, A', c', by simp, ?_, h3', by simpa using h1, by simpa using h1'⟩, ?_, by simp; omega, by simp; omega⟩
  · have : ens (l.map (·.val)) = l.flatMap fun r => Ytaebindbadfaaaa.enc r.val := by simp [ens, List.flatMap_map]
    rw [this]; exact h3
  · intro e he
    obtain ⟨x, _, rfl⟩ := List.mem_map.1 he
    exact x.2
theorem open_ents {A : Option Addr} {len cap : Nat} {d : DataW H} {p : List MemPlace} (h : DataW.Trod enc Try.prog w base sp held 28 (.slice A len cap) d p) : ∃ l : List CL.En, len = l.length ∧ len ≤ cap ∧ cap ≤ maxLen ∧ (∀ r ∈ l, r.n.length ≤ maxLen) ∧ Sits w A (ens l) := by
  obtain ⟨fuel, hf⟩ := h
  obtain ⟨A', l, cap', e, h1, h2, h3⟩ := open_list (fun r : {r : CL.En // r.n.length ≤ maxLen} => Ytaebindbadfaaaa.enc r.val) Try.underlying28 cellsEnt (by decide) (fun n v y h => trod_ent h) hf
  simp only [Value.cells, List.cons.injEq, Value.slice.injEq, and_true] at e
  obtain ⟨rfl, rfl, rfl⟩ := e
  refine ⟨l.map (·.val), by simp, h1, h2, ?_, ?_⟩
  · intro r hr
    obtain ⟨x, _, rfl⟩ := List.mem_map.1 hr
    exact x.2
  · have : ens (l.map (·.val)) = l.flatMap fun r => Ytaebindbadfaaaa.enc r.val := by simp [ens, List.flatMap_map]
    rw [this]; exact h3
theorem open_ent {r : Reach} {b0 : Nat} {v : Value} {d : DataW H} {p : List MemPlace} (hv : Value.okWide Try.prog w r b0 33 v) (h : DataW.Trod enc Try.prog w base sp held 33 v d p) :
    ∃ e : CL.En, e.n.length ≤ maxLen ∧ v = .agg (Ytaebindbadfaaaa.enc e).toArray := by
  obtain ⟨cs, rfl, hsz⟩ := okWide_struct Try.underlying33 hv
  obtain ⟨fuel, hf⟩ := h
  obtain ⟨⟨e, he⟩, h2⟩ := trod_ent hf
  refine ⟨e, he, ?_⟩
  simp only [Value.cells] at h2
  rw [← h2]
end
end Go.Proofs.Ytaebindbadfaaaa
