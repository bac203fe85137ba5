
/- Atoms in memory: equality, lists of atoms, and the walks that gather them. -/
import Derived.Test.YtaebindbadfaaaaEt
import Derived.Deep.RegionHeld3
import Derived.Deep.RegionLaw
import Derived.Deep.DeepCutAuto
namespace Go.Proofs.Ytaebindbadfaaaa
open Go.RowKit
set_option linter.unusedVariables false
theorem fm_len {α : Type} {c : α → List Value} {sz : Nat} (h : ∀ a, (c a).length = sz) (l : List α) : (l.flatMap c).length = l.length * sz := by
  induction l with
  | nil => simp
  | cons t l ih => rw [List.flatMap_cons, List.length_append, ih, h, List.length_cons, Nat.add_mul]; omega
theorem fm_get {α : Type} {c : α → List Value} {sz : Nat} (h : ∀ a, (c a).length = sz) {l : List α} {k : Nat} (hk : k < l.length) (j : Nat) (hj : j < sz) : (l.flatMap c)[k * sz + j]? = (c l[k])[j]? := by
  induction l generalizing k with
  | nil => simp at hk
  | cons t l ih =>
    cases k with
    | zero => rw [List.flatMap_cons, List.getElem?_append_left (by rw [h]; omega)]; simp
    | succ k =>
      rw [List.flatMap_cons, List.getElem?_append_right (by rw [h, Nat.add_mul]; omega), h]
      have := ih (k := k) (by simpa using hk)
      simp only [List.getElem_cons_succ]
      rw [← this]; congr 1; rw [Nat.add_mul]; omega
theorem am_eqD (k : Nat) (a b c d : Int) (W : World) : (Op.equalIn (k + 2) 23 (.agg #[.int .i64 a, .int .i64 b]) (.agg #[.int .i64 c, .int .i64 d])).run Try.prog W = .ok (decide (a = c ∧ b = d)) W := by
  have h1 : Try.prog.stoodInHeld 23 = false := by kernel_rfl
  rw [run_equalIn_struct (d := k + 1) _ _ _ _ (by simp [Program.fieldsOf, Try.underlying23]) h1]
  simp [Program.fieldsOf, Try.underlying23, Op.eqFields, go_sem, Try.underlying3]
  by_cases e1 : a = c <;> by_cases e2 : b = d <;> simp [e1, e2]
theorem at_eqIn (s t : List UInt8) (a b c d : Int) (W : World) : (Op.equalIn 10000 56 (.agg #[.string ⟨s.toArray⟩, .int .i64 a, .int .i64 b]) (.agg #[.string ⟨t.toArray⟩, .int .i64 c, .int .i64 d])).run Try.prog W = .ok (decide ((⟨s, ⟨a, b⟩⟩ : CL.At) = ⟨t, ⟨c, d⟩⟩)) W := by
  have h1 : Try.prog.stoodInHeld 56 = false := by kernel_rfl
  rw [run_equalIn_struct (d := 9999) _ _ _ _ (by simp [Program.fieldsOf, Try.underlying56]) h1]
  simp [Program.fieldsOf, Try.underlying56, Op.eqFields, go_sem, Try.underlying9]
  by_cases e0 : s = t <;> by_cases e1 : a = c <;> by_cases e2 : b = d <;> simp [e0, e1, e2]
/-- an atom as a value -/
def atv (a : CL.At) : Value := .agg #[.string ⟨a.n.toArray⟩, .int .i64 a.a.m, .int .i64 a.a.u]
theorem at_eql (s t : List UInt8) (a b c d : Int) (W : World) : (binOp .eql 56 (.agg #[.string ⟨s.toArray⟩, .int .i64 a, .int .i64 b]) (.agg #[.string ⟨t.toArray⟩, .int .i64 c, .int .i64 d])).run Try.prog W = .ok (.bool (decide ((⟨s, ⟨a, b⟩⟩ : CL.At) = ⟨t, ⟨c, d⟩⟩))) W := by
  rw [run_eql_struct, at_eqIn]; rfl
theorem at_neq (s t : List UInt8) (a b c d : Int) (W : World) : (binOp .neq 56 (.agg #[.string ⟨s.toArray⟩, .int .i64 a, .int .i64 b]) (.agg #[.string ⟨t.toArray⟩, .int .i64 c, .int .i64 d])).run Try.prog W = .ok (.bool (!decide ((⟨s, ⟨a, b⟩⟩ : CL.At) = ⟨t, ⟨c, d⟩⟩))) W := by
  rw [run_neq_struct, at_eqIn]; rfl
theorem at_guard : Try.prog.eqGuardType Try.prog.depth 56 = false := by kernel_rfl
theorem at_info : (Try.prog.info? 56).map (fun i => (i.zero, i.size, i.bytes)) = some (some (.agg #[.string ⟨#[]⟩, .int .i64 0, .int .i64 0]), 3, 32) := by kernel_rfl
/-- atoms as cells -/
def atc (a : CL.At) : List Value := [.string ⟨a.n.toArray⟩, .int .i64 a.a.m, .int .i64 a.a.u]
def ats (l : List CL.At) : List Value := l.flatMap atc
theorem ats_len (l : List CL.At) : (ats l).length = l.length * 3 := fm_len (c := atc) (fun _ => rfl) l
theorem ats_append (a b : List CL.At) : ats (a ++ b) = ats a ++ ats b := by simp [ats]
theorem ats_snoc (l : List CL.At) (a : CL.At) : ats (l ++ [a]) = ats l ++ atc a := by simp [ats]
theorem at_cells {w : World} {l : List CL.At} {p o k : Nat} (hc : ∀ j u, (ats l)[j]? = some u → w.cell? ⟨p, o + j, none⟩ = some u) (h : k < l.length) :
    w.cell? ⟨p, o + k * 3, none⟩ = some (.string ⟨l[k].n.toArray⟩) ∧ w.cell? ⟨p, o + k * 3 + 1, none⟩ = some (.int .i64 l[k].a.m) ∧ w.cell? ⟨p, o + k * 3 + 2, none⟩ = some (.int .i64 l[k].a.u) :=
  ⟨hc (k * 3 + 0) _ (fm_get (c := atc) (sz := 3) (fun _ => rfl) h 0 (by omega)), hc (k * 3 + 1) _ (fm_get (c := atc) (sz := 3) (fun _ => rfl) h 1 (by omega)), hc (k * 3 + 2) _ (fm_get (c := atc) (sz := 3) (fun _ => rfl) h 2 (by omega))⟩
theorem Sits.atoms {w : World} {l : List CL.At} {A : Option Addr} (hr : Sits w A (ats l)) {k : Nat} (h : k < l.length) : ∃ b o, A = some ⟨b, o, none⟩ ∧
    w.cell? ⟨b, o + k * 3, none⟩ = some (.string ⟨l[k].n.toArray⟩) ∧ w.cell? ⟨b, o + k * 3 + 1, none⟩ = some (.int .i64 l[k].a.m) ∧ w.cell? ⟨b, o + k * 3 + 2, none⟩ = some (.int .i64 l[k].a.u) :=
  let ⟨b, o, e, hc⟩ := hr.get (by rw [ats_len]; omega)
  ⟨b, o, e, at_cells hc h⟩
/-- a slot that holds a list of atoms of the call's own -/
def AtRow (w : World) (g base : Nat) (l : List CL.At) : Prop := ∃ v, Blk w g 41 #[v] ∧ w.ownsRow base 56 3 v l.length (ats l)
theorem AtRow.ext {w w' : World} {g base : Nat} {l : List CL.At} (h : AtRow w g base l) (hx : Ext w w') : AtRow w' g base l :=
  let ⟨v, h1, h2⟩ := h
  ⟨v, h1.ext hx, own_ext h2 hx⟩
theorem at_ne : 56 ≠ 41 := by decide
def NoteTo (l : List CL.At) (a : CL.At) (j : Nat) : Prop := CL.noteF l a = CL.noteF (l.drop j) a ∧ a ∉ l.take j
theorem NoteTo.zero (l : List CL.At) (a : CL.At) : NoteTo l a 0 := ⟨by simp, by simp⟩
theorem NoteTo.hit {l : List CL.At} {a : CL.At} {j : Nat} (h : NoteTo l a j) (hj : j < l.length) (he : a = l[j]) : CL.note l a = (0, l) := by
  have h1 := h.1
  rw [List.drop_eq_getElem_cons hj] at h1
  simp only [CL.noteF, he, if_true] at h1
  unfold CL.note
  rw [if_pos (by rw [he]; exact List.getElem_mem hj), he, h1]
theorem NoteTo.name {l : List CL.At} {a : CL.At} {j : Nat} (h : NoteTo l a j) (hj : j < l.length) (he : ¬ a = l[j]) (hn : a.n = l[j].n) : CL.note l a = (13, l) := by
  have h1 := h.1
  rw [List.drop_eq_getElem_cons hj] at h1
  simp only [CL.noteF] at h1
  rw [if_neg he, if_pos hn] at h1
  unfold CL.note
  rw [h1]
  split
  · rfl
  · rw [if_pos (by decide)]
theorem NoteTo.step {l : List CL.At} {a : CL.At} {j : Nat} (h : NoteTo l a j) (hj : j < l.length) (he : ¬ a = l[j]) (hn : ¬ a.n = l[j].n) : NoteTo l a (j + 1) := by
  have h1 := h.1
  rw [List.drop_eq_getElem_cons hj] at h1
  simp only [CL.noteF] at h1
  rw [if_neg he, if_neg hn] at h1
  refine ⟨h1, ?_⟩
  rw [List.take_succ_eq_append_getElem hj]
  simp only [List.mem_append, List.mem_singleton, not_or]
  exact ⟨h.2, he⟩
theorem NoteTo.done {l : List CL.At} {a : CL.At} {j : Nat} (h : NoteTo l a j) (hj : l.length ≤ j) : CL.note l a = if l.length = 8 then (4, l) else (0, l ++ [a]) := by
  obtain ⟨h1, h2⟩ := h
  rw [List.drop_eq_nil_of_le hj] at h1
  rw [List.take_of_length_le hj] at h2
  unfold CL.note
  rw [if_neg h2, h1]
  simp [CL.noteF]
end Go.Proofs.Ytaebindbadfaaaa
