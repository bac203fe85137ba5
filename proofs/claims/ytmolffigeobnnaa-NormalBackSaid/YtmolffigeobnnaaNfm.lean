
/- What the walks of FromSets share: lists of lists of numbers in memory; what FromSets answers. -/
import Derived.Test.YtmolffigeobnnaaNf
import Derived.Test.YtmolffigeobnnaaNr
import Derived.Test.YtmolffigeobnnaaNd2
namespace Go.Proofs.Ytmolffigeobnnaa
open Go.RowKit
set_option linter.unusedVariables false
set_option linter.unusedSimpArgs false
/-- lists of numbers behind slices behind a slice -/
def MatS (w : World) (A : Option Addr) (ls : List (List Int)) : Prop := ∃ vs : List Value, Sits w A vs ∧ vs.length = ls.length ∧ ∀ i (h1 : i < ls.length) (h2 : i < vs.length), ∃ Ai ci, vs[i] = .slice Ai ls[i].length ci ∧ ls[i].length ≤ maxLen ∧ Sits w Ai (ints ls[i])
theorem MatS.ext {w w' : World} {A : Option Addr} {ls : List (List Int)} (h : MatS w A ls) (hx : Ext w w') : MatS w' A ls :=
  let ⟨vs, h1, h2, h3⟩ := h
  ⟨vs, h1.ext hx, h2, fun i a b => let ⟨Ai, ci, k1, k2, k3⟩ := h3 i a b; ⟨Ai, ci, k1, k2, k3.ext hx⟩⟩
theorem MatS.get {w : World} {A : Option Addr} {ls : List (List Int)} (h : MatS w A ls) {i : Nat} (hi : i < ls.length) :
    ∃ b o Ai ci, A = some ⟨b, o, none⟩ ∧ w.cell? ⟨b, o + i, none⟩ = some (.slice Ai ls[i].length ci) ∧ ls[i].length ≤ maxLen ∧ Sits w Ai (ints ls[i]) := by
  obtain ⟨vs, h1, h2, h3⟩ := h
  obtain ⟨b, o, e, hc⟩ := h1.get (by omega)
  obtain ⟨Ai, ci, e2, h4, h5⟩ := h3 i hi (by omega)
  exact ⟨b, o, Ai, ci, e, by rw [← e2]; exact hc i _ (List.getElem?_eq_getElem _), h4, h5⟩
theorem MatAt.s {w : World} {A : Option Addr} {ls : List (List Int)} (h : MatAt w A ls) : MatS w A ls := by
  obtain ⟨vs, h1, h2, h3⟩ := h
  exact ⟨vs, h1, h2, fun i a b => by
    obtain ⟨Ai, ci, e2, h4, h5, _⟩ := h3 i a b
    exact ⟨Ai, ci, e2, h4, h5⟩⟩
def FromPost (l : List CL.At) (ss : List (List Int)) (w : World) (r : Ending) (w' : World) : Prop := ∃ cs, r = .returned (.tuple #[.agg cs.toArray, .bool (CL.fromOK l ss)]) ∧ RdI w' w.heap.size w'.heap.size (CL.fromE l ss) cs ∧ Ext w w'
theorem FromPost.get {l : List CL.At} {ss : List (List Int)} {w w' : World} {r : Ending} (h : FromPost l ss w r w') : ∃ k n m u A x c, r = .returned (.tuple #[.agg #[.int .i64 k, .string n, .int .i64 m, .int .i64 u, .slice A x c], .bool (CL.fromOK l ss)]) ∧ RdI w' w.heap.size w'.heap.size (CL.fromE l ss) [.int .i64 k, .string n, .int .i64 m, .int .i64 u, .slice A x c] ∧ Ext w w' := by
  obtain ⟨cs, rfl, h1, h2⟩ := h
  obtain ⟨k, n, m, u, A, x, c, rfl⟩ := h1.shape
  exact ⟨k, n, m, u, A, x, c, rfl, h1, h2⟩
theorem FromPost.no {l : List CL.At} {ss : List (List Int)} {w w' : World} (h : CL.fromOK l ss = false) (hx : Ext w w') : FromPost l ss w (.returned (.tuple #[.agg #[.int .i64 0, .string ⟨#[]⟩, .int .i64 0, .int .i64 0, .slice none 0 0], .bool false])) w' := by
  unfold FromPost
  rw [CL.fromE_no h, h]
  exact ⟨_, rfl, RdI.leaf w' _ _ 0 CL.noAt none 0 (by simp [CL.noAt]), hx⟩
theorem FromPost.yes {l : List CL.At} {ss : List (List Int)} {w wc : World} {p lo : Nat} {cs : List Value} {v0 v1 v2 v3 v4 : Value} (h : CL.fromOK l ss = true) (hr : RdI wc lo wc.heap.size (CL.setsEx l ss) cs) (hp : w.heap.size ≤ p) (hp2 : p < lo) (hx : Ext w wc) :
    FromPost l ss w (.returned (.tuple #[.agg cs.toArray, .bool true])) (((((wc.setCell ⟨p, 0, none⟩ v0).setCell ⟨p, 1, none⟩ v1).setCell ⟨p, 2, none⟩ v2).setCell ⟨p, 3, none⟩ v3).setCell ⟨p, 4, none⟩ v4) := by
  obtain ⟨cs', e, h1, h2⟩ := MadeE.put (v0 := v0) (v1 := v1) (v2 := v2) (v3 := v3) (v4 := v4) hr hp hp2 hx
  unfold FromPost
  rw [CL.fromE_yes h, h]
  injection e with e
  injection e with e
  exact ⟨cs', by rw [e], h1, h2⟩
theorem groups_take {l : List CL.At} {ss : List (List Int)} {j : Nat} (hj : j < ss.length) : (ss.take (j + 1)).map (CL.groupOf l) = (ss.take j).map (CL.groupOf l) ++ [CL.groupOf l ss[j]] := by
  rw [List.take_succ_eq_append_getElem hj, List.map_append]; rfl
theorem leafs_take {l : List CL.At} {s : List Int} {j : Nat} (hj : j < s.length) : (s.take (j + 1)).map (CL.leafOf l) = (s.take j).map (CL.leafOf l) ++ [CL.leafOf l s[j]] := by
  rw [List.take_succ_eq_append_getElem hj, List.map_append]; rfl
theorem all_take {l : List CL.At} {ss : List (List Int)} {j : Nat} (hj : j < ss.length) (h : (ss.take j).all (CL.okSet l) = true) (hs : CL.okSet l ss[j] = true) : (ss.take (j + 1)).all (CL.okSet l) = true := by
  rw [List.take_succ_eq_append_getElem hj, List.all_append, h]
  simp [hs]
def InR (l : List CL.At) (s : List Int) : Prop := ∀ z ∈ s, 0 ≤ z ∧ z < (l.length : Int)
theorem inR_take {l : List CL.At} {s : List Int} {j : Nat} (hj : j < s.length) (h : InR l (s.take j)) (hs : 0 ≤ s[j] ∧ s[j] < (l.length : Int)) : InR l (s.take (j + 1)) := by
  rw [List.take_succ_eq_append_getElem hj]
  intro z hz
  rcases List.mem_append.1 hz with hz | hz
  · exact h z hz
  · simp only [List.mem_singleton] at hz; subst hz; exact hs
theorem inR_ok {l : List CL.At} {s : List Int} (h : InR l s) (hl : s.length ≤ 24) : CL.okSet l s = true := by
  unfold CL.okSet
  rw [decide_eq_true hl, Bool.true_and, List.all_eq_true]
  exact fun z hz => decide_eq_true (h z hz)
theorem sits_int9 {w : World} {A : Option Addr} {s : List Int} (h : Sits w A (ints s)) {k : Nat} (hk : k < s.length) : ∃ b o, A = some ⟨b, o, none⟩ ∧ w.cell? ⟨b, o + k, none⟩ = some (.int .i64 s[k]) := by
  obtain ⟨b, o, e, hc⟩ := h.get (by unfold ints; rw [List.length_map]; omega)
  exact ⟨b, o, e, hc k _ (by unfold ints; rw [List.getElem?_map, List.getElem?_eq_getElem hk]; rfl)⟩
theorem leaf_at {l : List CL.At} {q : Nat} (h : q < l.length) : CL.leafOf l (q : Int) = .mk 0 l[q] [] := by
  unfold CL.leafOf
  simp [List.getD, h]
theorem okSet_out {l : List CL.At} {s : List Int} {k : Nat} (hk : k < s.length) (hz : ¬ (0 ≤ s[k] ∧ s[k] < (l.length : Int))) : CL.okSet l s = false := CL.okSet_bad (List.getElem_mem hk) hz
end Go.Proofs.Ytmolffigeobnnaa
