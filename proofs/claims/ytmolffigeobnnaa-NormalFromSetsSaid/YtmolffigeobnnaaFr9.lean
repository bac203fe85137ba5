
/- Lists of atoms and lists of lists of numbers out of the arguments. -/
import Derived.Test.YtmolffigeobnnaaFr8i
import Derived.Test.YtmolffigeobnnaaNfm
namespace Go.Proofs.Ytmolffigeobnnaa
open Go.ChangeShapes Go.WideShapes Go.ChangeAt Go.RowKit Go.Joins
set_option linter.unusedVariables false
set_option maxRecDepth 100000
set_option linter.unusedSimpArgs false
theorem cellsInts : Try.prog.cellsOf 38 = 1 := by kernel_rfl
section
variable {H : Type} {enc : TypeId × Value → H} {w : World} {base : Nat} {sp : Nat → Bool} {held : Bool}
theorem trod_atom9 {n : Nat} {cs : List Value} {y : DataW H × List MemPlace} (h : DataW.trod enc Try.prog w base sp held n 25 cs = some y) : ∃ a : {a : CL.At // a.n.length ≤ maxLen}, cs = atc a.val := by
  obtain ⟨s, a, b, rfl, hs⟩ := trod_atom h
  exact ⟨⟨⟨s, ⟨a, b⟩⟩, hs⟩, rfl⟩
theorem open_atoms {A : Option Addr} {len cap : Nat} {d : DataW H} {p : List MemPlace} (h : DataW.Trod enc Try.prog w base sp held 44 (.slice A len cap) d p) : ∃ l : List CL.At, len = l.length ∧ len ≤ cap ∧ cap ≤ maxLen ∧ (∀ a ∈ l, a.n.length ≤ maxLen) ∧ Sits w A (ats l) := by
  obtain ⟨fuel, hf⟩ := h
  obtain ⟨A', l, cap', e, h1, h2, h3⟩ := open_list (fun r : {a : CL.At // a.n.length ≤ maxLen} => atc r.val) Try.underlying44 cellsAtom (by decide) (fun n v y h => trod_atom9 h) hf
  simp only [Value.cells, List.cons.injEq, Value.slice.injEq, and_true] at e
  obtain ⟨rfl, rfl, rfl⟩ := e
  refine ⟨l.map (·.val), by simp, h1, h2, fun a ha => ?_, ?_⟩
  · obtain ⟨x, _, rfl⟩ := List.mem_map.1 ha
    exact x.property
  · unfold ats
    rw [List.flatMap_map]; exact h3
theorem open_mat {A : Option Addr} {len cap : Nat} {d : DataW H} {p : List MemPlace} (h : DataW.Trod enc Try.prog w base sp held 31 (.slice A len cap) d p) : ∃ ls : List (List Int), len = ls.length ∧ len ≤ cap ∧ cap ≤ maxLen ∧ MatS w A ls := by
  obtain ⟨fuel, hf⟩ := h
  obtain ⟨A', vs, cap', e, h1, h2, h3, h4⟩ := open_rows Try.underlying31 cellsInts (by decide) hf
  simp only [Value.cells, List.cons.injEq, Value.slice.injEq, and_true] at e
  obtain ⟨rfl, rfl, rfl⟩ := e
  have hk : ∀ vs : List (List Value), (∀ v ∈ vs, v.length = 1 ∧ ∃ n y, n < fuel ∧ DataW.trod enc Try.prog w base sp held n 38 v = some y) → ∃ ls : List (List Int), ls.length = vs.length ∧ ∀ i (a : i < ls.length) (b : i < vs.length), ∃ Ai ci, vs[i] = [.slice Ai ls[i].length ci] ∧ ls[i].length ≤ maxLen ∧ Sits w Ai (ints ls[i]) := by
    intro vs
    induction vs with
    | nil => intro _; exact ⟨[], rfl, fun i h => by simp at h⟩
    | cons v vs ihv =>
      intro hv
      obtain ⟨_, n, y, hn, hy⟩ := hv v (by simp)
      obtain ⟨Ai, l, ci, e, k1, k2, k3⟩ := open_list (fun b : Int => [Value.int .i64 b]) Try.underlying38 cellsInt (by decide) (fun n v y h => by
        obtain ⟨b, e, _⟩ := DataW.trod_int Try.underlying3 h
        exact ⟨b, e⟩) hy
      obtain ⟨ks, hks, hr⟩ := ihv (fun v hv' => hv v (by simp [hv']))
      refine ⟨l :: ks, by simp [hks], fun i a b => ?_⟩
      cases i with
      | zero => exact ⟨Ai, ci, e, Nat.le_trans k1 k2, by unfold ints; rw [List.map_eq_flatMap]; exact k3⟩
      | succ i => exact hr i (by simpa using a) (by simpa using b)
  obtain ⟨ls, hls, hr⟩ := hk vs h4
  refine ⟨ls, hls.symm, h1, h2, vs.flatten, h3, ?_, fun i a b => ?_⟩
  · rw [flat_len (fun v hv => (h4 v hv).1), hls, Nat.mul_one]
  · obtain ⟨Ai, ci, e, k1, k2⟩ := hr i a (by omega)
    refine ⟨Ai, ci, ?_, k1, k2⟩
    have hg := get_flat (fun v hv => (h4 v hv).1) (i := i) (k := 0) (show i < vs.length by omega) (by decide)
    rw [Nat.mul_one, Nat.add_zero, e, List.getElem?_eq_getElem b] at hg
    simpa using hg
end
end Go.Proofs.Ytmolffigeobnnaa
