
/- Arguments opened to cells: slices whose elements are read as rows of cells, strings, numbers. -/
import Derived.Test.YtaebindbadfaaaaWd
import Derived.OpenShut
import Derived.Deep.Slices
import Derived.Lib.SmallJoins
namespace Go.Proofs.Ytaebindbadfaaaa
open Go.RowKit Go.ChangeShapes Go.WideShapes
section
variable {H : Type} {enc : TypeId × Value → H} {P : Program} {w : World} {base : Nat} {sp : Nat → Bool} {held : Bool}
theorem flat_get {vs : List (List Value)} {sz : Nat} (h : ∀ v ∈ vs, v.length = sz) : ∀ {j : Nat} {u : Value}, vs.flatten[j]? = some u → ∃ i k, j = i * sz + k ∧ k < sz ∧ ∃ hi : i < vs.length, vs[i][k]? = some u := by
  induction vs with
  | nil => intro j u hu; simp at hu
  | cons v vs ih =>
    intro j u hu
    have hv := h v (by simp)
    by_cases hj : j < sz
    · rw [List.flatten_cons, List.getElem?_append_left (by omega)] at hu
      exact ⟨0, j, by omega, hj, by simp, by simpa using hu⟩
    · rw [List.flatten_cons, List.getElem?_append_right (by omega)] at hu
      obtain ⟨i, k, e, hk, hi, h2⟩ := ih (fun x hx => h x (by simp [hx])) hu
      exact ⟨i + 1, k, by rw [Nat.add_mul]; omega, hk, by simpa using hi, by simpa using h2⟩
theorem get_flat {vs : List (List Value)} {sz : Nat} (h : ∀ v ∈ vs, v.length = sz) : ∀ {i k : Nat} (hi : i < vs.length), k < sz → vs.flatten[i * sz + k]? = vs[i][k]? := by
  induction vs with
  | nil => intro i k hi; simp at hi
  | cons v vs ih =>
    intro i k hi hk
    have hv := h v (by simp)
    cases i with
    | zero => rw [List.flatten_cons, List.getElem?_append_left (by omega)]; simp
    | succ i =>
      rw [List.flatten_cons, List.getElem?_append_right (by rw [Nat.add_mul]; omega)]
      have := ih (fun x hx => h x (by simp [hx])) (i := i) (k := k) (by simpa using hi) hk
      simp only [List.getElem_cons_succ]
      rw [← this]; congr 1; rw [Nat.add_mul]; omega
theorem flat_len {vs : List (List Value)} {sz : Nat} (h : ∀ v ∈ vs, v.length = sz) : vs.flatten.length = vs.length * sz := by
  induction vs with
  | nil => simp
  | cons v vs ih =>
    have hv := h v (by simp)
    rw [List.flatten_cons, List.length_append, ih (fun x hx => h x (by simp [hx])), hv, List.length_cons, Nat.add_mul]; omega
theorem open_rows {t e : TypeId} {sz fuel : Nat} {cs : List Value} {x : DataW H × List MemPlace} (ht : P.underlying t = some (.slice e)) (hC : P.cellsOf e = sz) (hsz : 0 < sz) (h : DataW.trod enc P w base sp held fuel t cs = some x) :
    ∃ (A : Option Addr) (vs : List (List Value)) (cap : Nat), cs = [.slice A vs.length cap] ∧ vs.length ≤ cap ∧ cap ≤ maxLen ∧ Sits w A vs.flatten ∧ ∀ v ∈ vs, v.length = sz ∧ ∃ n y, n < fuel ∧ DataW.trod enc P w base sp held n e v = some y := by
  rcases DataW.trod_slice ht h with ⟨hcs, _⟩ | ⟨a, len, cap, elems, rest, n, hn, hcs, hx, hb, hl, hm, hlen, hel, _, _⟩
  · exact ⟨none, [], 0, by simpa using hcs, by simp, by simp [maxLen], Sits.nil, by simp⟩
  · rw [hC] at hel
    have hget : ∀ i, i < len → ∃ v, w.cells? base (a.add (i * sz)) sz = some v ∧ v.length = sz ∧ ∃ y, DataW.trod enc P w base sp held n e v = some y := by
      intro i hi
      have h1 := hel i hi
      have h2 : elems[i]? = some (elems[i]'(by omega)) := List.getElem?_eq_getElem (by omega)
      rw [h2] at h1
      cases hc : w.cells? base (a.add (i * sz)) sz with
      | none => rw [hc] at h1; cases h1
      | some v => rw [hc] at h1; exact ⟨v, rfl, (World.cells?_some hc).2.1, _, h1⟩
    let f : Nat → List Value := fun i => (w.cells? base (a.add (i * sz)) sz).getD []
    have hf : ∀ i, i < len → f i = (w.cells? base (a.add (i * sz)) sz).getD [] ∧ w.cells? base (a.add (i * sz)) sz = some (f i) ∧ (f i).length = sz ∧ ∃ y, DataW.trod enc P w base sp held n e (f i) = some y := by
      intro i hi
      obtain ⟨v, h1, h2, h3⟩ := hget i hi
      have : f i = v := by simp [f, h1]
      exact ⟨rfl, by rw [this]; exact h1, by rw [this]; exact h2, by rw [this]; exact h3⟩
    refine ⟨some a, (List.range len).map f, cap, by simpa using hcs, by simpa using hl, hm, ?_, ?_⟩
    · intro hne
      have h0 : 0 < len := by
        rcases Nat.eq_zero_or_pos len with h | h
        · subst h; simp at hne
        · exact h
      have hall : ∀ v ∈ (List.range len).map f, v.length = sz := by
        intro v hv
        obtain ⟨i, hi, rfl⟩ := List.mem_map.1 hv
        exact (hf i (by simpa using hi)).2.2.1
      obtain ⟨b, off, spot⟩ := a
      have hspot : spot = none := by
        have h1 := (World.cells?_some (hf 0 h0).2.1).2.2 0 hsz
        have h2 : (f 0)[0]? = some ((f 0)[0]'(by have := (hf 0 h0).2.2.1; omega)) := List.getElem?_eq_getElem _
        rw [h2] at h1
        simpa [Addr.add] using World.cell?_spot h1
      subst hspot
      refine ⟨b, off, rfl, fun j u hu => ?_⟩
      obtain ⟨i, k, rfl, hk, hi, hik⟩ := flat_get hall hu
      simp at hi hik
      have h1 := (World.cells?_some (hf i hi).2.1).2.2 k hk
      rw [hik] at h1
      rw [Addr.add_lit, Addr.add_lit, Nat.add_assoc] at h1; exact h1
    · intro v hv
      obtain ⟨i, hi, rfl⟩ := List.mem_map.1 hv
      obtain ⟨_, _, h2, y, h3⟩ := hf i (by simpa using hi)
      exact ⟨h2, n, y, by omega, h3⟩
/-- .. each element's cells being those of some x -/
theorem open_list {α : Type} (c : α → List Value) {t e : TypeId} {sz fuel : Nat} {cs : List Value} {x : DataW H × List MemPlace} (ht : P.underlying t = some (.slice e)) (hC : P.cellsOf e = sz) (hsz : 0 < sz)
    (hel : ∀ n v y, DataW.trod enc P w base sp held n e v = some y → ∃ a, v = c a) (h : DataW.trod enc P w base sp held fuel t cs = some x) :
    ∃ (A : Option Addr) (l : List α) (cap : Nat), cs = [.slice A l.length cap] ∧ l.length ≤ cap ∧ cap ≤ maxLen ∧ Sits w A (l.flatMap c) := by
  obtain ⟨A, vs, cap, rfl, h1, h2, h3, h4⟩ := open_rows ht hC hsz h
  have : ∃ l : List α, vs = l.map c := by
    clear h1 h2 h3 h
    induction vs with
    | nil => exact ⟨[], rfl⟩
    | cons v vs ih =>
      obtain ⟨_, n, y, _, hy⟩ := h4 v (by simp)
      obtain ⟨a, rfl⟩ := hel n v y hy
      obtain ⟨l, rfl⟩ := ih (fun v hv => h4 v (by simp [hv]))
      exact ⟨a :: l, rfl⟩
  obtain ⟨l, rfl⟩ := this
  refine ⟨A, l, cap, by simp, by simpa using h1, h2, ?_⟩
  rw [List.flatMap_def]; exact h3
theorem trod_str {t : TypeId} {fuel : Nat} {cs : List Value} {x : DataW H × List MemPlace} (ht : P.underlying t = some .string) (h : DataW.trod enc P w base sp held fuel t cs = some x) :
    ∃ l : List UInt8, cs = [.string ⟨l.toArray⟩] ∧ l.length ≤ maxLen := by
  obtain ⟨s, h1, _, h3⟩ := DataW.trod_string ht h
  refine ⟨s.data.toList, by cases s; simpa using h1, by rw [Array.length_toList]; exact h3⟩
end
end Go.Proofs.Ytaebindbadfaaaa
