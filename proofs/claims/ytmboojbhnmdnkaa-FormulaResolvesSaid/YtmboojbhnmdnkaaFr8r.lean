
/- Lists of resources out of the arguments. -/
import Derived.Test.YtmboojbhnmdnkaaFr8
import Derived.Test.YtmboojbhnmdnkaaCt
namespace Go.Proofs.Ytmboojbhnmdnkaa
open Go.ChangeShapes Go.WideShapes Go.ChangeAt Go.RowKit Go.Joins
set_option linter.unusedVariables false
set_option linter.unusedSimpArgs false
theorem cellsRes : Try.prog.cellsOf 59 = 4 := by kernel_rfl
section
variable {H : Type} {enc : TypeId × Value → H} {w : World} {base : Nat} {sp : Nat → Bool} {held : Bool}
theorem trod_res {n : Nat} {cs : List Value} {y : DataW H × List MemPlace} (h : DataW.trod enc Try.prog w base sp held n 59 cs = some y) : ∃ r : {r : CL.Re // r.n.length ≤ maxLen}, cs = rec r.val := by
  obtain ⟨xs, m, rfl, hx, hcl, hxl, hi⟩ := DataW.trod_struct Try.underlying59 h
  rw [cellsRes] at hcl
  obtain ⟨c0, c1, c2, c3, rfl⟩ : ∃ c0 c1 c2 c3, cs = [c0, c1, c2, c3] := by
    match cs, hcl with
    | [c0, c1, c2, c3], _ => exact ⟨c0, c1, c2, c3, rfl⟩
  obtain ⟨x0, h0⟩ := fld (i := 0) (k := 0) hxl (by decide) (hi 0 _ rfl)
  obtain ⟨x1, h1⟩ := fld (i := 1) (k := 0) hxl (by decide) (hi 1 _ rfl)
  obtain ⟨x2, h2⟩ := fld (i := 2) (k := 0) hxl (by decide) (hi 2 _ rfl)
  obtain ⟨x3, h3⟩ := fld (i := 3) (k := 0) hxl (by decide) (hi 3 _ rfl)
  obtain ⟨s, e0, hs⟩ := trod_str Try.underlying9 h0
  obtain ⟨a1, e1, _⟩ := DataW.trod_int Try.underlying3 h1
  obtain ⟨a2, e2, _⟩ := DataW.trod_int Try.underlying3 h2
  obtain ⟨a3, e3, _⟩ := DataW.trod_int Try.underlying3 h3
  simp only [List.getElem_toArray, List.getElem_cons_zero, List.getElem_cons_succ, cellsInt, cellsStr, cellsAmt, cellsAtom, cellsKids, List.drop, List.take, List.cons.injEq, and_true] at e0 e1 e2 e3
  exact ⟨⟨⟨s, a1, a2, a3⟩, hs⟩, by rw [e0, e1, e2, e3]; rfl⟩
theorem open_ress {A : Option Addr} {len cap : Nat} {d : DataW H} {p : List MemPlace} (h : DataW.Trod enc Try.prog w base sp held 41 (.slice A len cap) d p) : ∃ l : List CL.Re, len = l.length ∧ len ≤ cap ∧ cap ≤ maxLen ∧ (∀ r ∈ l, r.n.length ≤ maxLen) ∧ Sits w A (recs l) := by
  obtain ⟨fuel, hf⟩ := h
  obtain ⟨A', l, cap', e, h1, h2, h3⟩ := open_list (fun r : {r : CL.Re // r.n.length ≤ maxLen} => rec r.val) Try.underlying41 cellsRes (by decide) (fun n v y h => trod_res h) hf
  simp only [Value.cells, List.cons.injEq, Value.slice.injEq, and_true] at e
  obtain ⟨rfl, rfl, rfl⟩ := e
  refine ⟨l.map (·.val), by simp, h1, h2, ?_, ?_⟩
  · intro r hr
    obtain ⟨x, _, rfl⟩ := List.mem_map.1 hr
    exact x.2
  · have : recs (l.map (·.val)) = l.flatMap fun r => rec r.val := by simp [recs, List.flatMap_map]
    rw [this]; exact h3
end
end Go.Proofs.Ytmboojbhnmdnkaa
