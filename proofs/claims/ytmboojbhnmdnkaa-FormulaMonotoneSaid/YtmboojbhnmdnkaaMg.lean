
/- The mill: expressions, plain facts, and an expression that stands in blocks of a range. -/
import Derived.Test.YtmboojbhnmdnkaaMc
namespace CL
/-- the amount that the mill makes for a resource -/
def amFor (f g : Int → Int → Int) (r : Re) (n : Int) : Am := if r.k = 1 then ⟨f n 8, 0⟩ else ⟨0, 1 + g n r.u⟩
/-- what the mill's groups over a list of atoms are, of at most d further levels -/
inductive Grp (ats : List At) : Nat → Ex → Prop
  | leaf (d : Nat) (a : At) (h : a ∈ ats) : Grp ats d (.mk 0 a [])
  | node (d : Nat) (k : Int) (kids : List Ex) (h1 : 1 ≤ kids.length) (h2 : kids.length ≤ 3) (h3 : 1 ≤ k) (h4 : k ≤ kids.length) (h : ∀ e ∈ kids, Grp ats d e) : Grp ats (d + 1) (.mk k ⟨[], ⟨0, 0⟩⟩ kids)
end CL
namespace Go.Proofs.Ytmboojbhnmdnkaa
open Go.RowKit
set_option linter.unusedVariables false
set_option linter.unusedSimpArgs false
/-- the same blocks from lo to hi -/
def Same (w w' : World) (lo hi : Nat) : Prop := ∀ k, lo ≤ k → k < hi → w'.heap[k]? = w.heap[k]?
theorem Same.tr {a b c : World} {lo hi : Nat} (h : Same a b lo hi) (k : Same b c lo hi) : Same a c lo hi := fun i h1 h2 => (k i h1 h2).trans (h i h1 h2)
theorem Same.sub {a b : World} {lo hi lo' hi' : Nat} (h : Same a b lo hi) (h1 : lo ≤ lo') (h2 : hi' ≤ hi) : Same a b lo' hi' := fun i a b => h i (by omega) (by omega)
theorem Same.only {g : Nat} {a b : World} (h : Only g a b) {lo hi : Nat} (h1 : g < lo) (h2 : hi ≤ a.heap.size) : Same a b lo hi := fun i h3 h4 => h.block i (by omega) (fun e => by injection e; omega)
theorem Same.grown {a b : World} {r : Option Nat} (h : a.grownBy b r) {lo hi : Nat} (h1 : ∀ x, r = some x → x < lo ∨ hi ≤ x) (h2 : hi ≤ a.heap.size) : Same a b lo hi := fun i h3 h4 => h.block i (by omega) (fun e => by have := h1 i e.symm; omega)
theorem Same.cell {a b : World} {lo hi : Nat} (h : Same a b lo hi) {p o : Nat} (h1 : lo ≤ p) (h2 : p < hi) : b.cell? ⟨p, o, none⟩ = a.cell? ⟨p, o, none⟩ := by
  unfold World.cell?; simp only [h p h1 h2]
/-- cells at an address in a block from lo to hi -/
def SitsIn (w : World) (lo hi : Nat) (A : Option Addr) (xs : List Value) : Prop :=
  xs ≠ [] → ∃ b o, A = some ⟨b, o, none⟩ ∧ lo ≤ b ∧ b < hi ∧ ∀ j u, xs[j]? = some u → w.cell? ⟨b, o + j, none⟩ = some u
theorem SitsIn.same {w w' : World} {lo hi : Nat} {A : Option Addr} {xs : List Value} (h : SitsIn w lo hi A xs) (hs : Same w w' lo hi) : SitsIn w' lo hi A xs := fun hn =>
  let ⟨b, o, e, h1, h2, hc⟩ := h hn
  ⟨b, o, e, h1, h2, fun j u hu => (hs.cell h1 h2).trans (hc j u hu)⟩
theorem SitsIn.sits {w : World} {lo hi : Nat} {A : Option Addr} {xs : List Value} (h : SitsIn w lo hi A xs) : Sits w A xs := fun hn =>
  let ⟨b, o, e, _, _, hc⟩ := h hn
  ⟨b, o, e, hc⟩
theorem SitsIn.sitsB {w : World} {lo hi : Nat} {A : Option Addr} {xs : List Value} (h : SitsIn w lo hi A xs) : SitsB w hi A xs := fun hn =>
  let ⟨b, o, e, _, h2, hc⟩ := h hn
  ⟨b, o, e, h2, hc⟩
theorem SitsIn.of {w : World} {lo : Nat} {A : Option Addr} {xs : List Value} (h : Sits w A xs) (hl : ∀ b o, xs ≠ [] → A = some ⟨b, o, none⟩ → lo ≤ b) : SitsIn w lo w.heap.size A xs := fun hn =>
  let ⟨b, o, e, hc⟩ := h hn
  ⟨b, o, e, hl b o hn e, (by
    cases xs with
    | nil => exact absurd rfl hn
    | cons x xs => exact World.block_lt_of_cell? w _ (hc 0 x rfl)), hc⟩
theorem SitsIn.wide {w : World} {lo hi lo' hi' : Nat} {A : Option Addr} {xs : List Value} (h : SitsIn w lo hi A xs) (h1 : lo' ≤ lo) (h2 : hi ≤ hi') : SitsIn w lo' hi' A xs := fun hn =>
  let ⟨b, o, e, a, b', hc⟩ := h hn
  ⟨b, o, e, by omega, by omega, hc⟩
/-- an expression that stands in blocks from lo to hi alone -/
def RdR (w : World) (lo hi : Nat) (e : CL.Ex) (cs : List Value) : Prop := ∀ w', Same w w' lo hi → Rd w' hi e cs
theorem RdR.rd {w : World} {lo hi : Nat} {e : CL.Ex} {cs : List Value} (h : RdR w lo hi e cs) : Rd w hi e cs := h w (fun _ _ _ => rfl)
theorem RdR.same {w w' : World} {lo hi : Nat} {e : CL.Ex} {cs : List Value} (h : RdR w lo hi e cs) (hs : Same w w' lo hi) : RdR w' lo hi e cs := fun u hu => h u (hs.tr hu)
theorem RdR.wide {w : World} {lo hi lo' hi' : Nat} {e : CL.Ex} {cs : List Value} (h : RdR w lo hi e cs) (h1 : lo' ≤ lo) (h2 : hi ≤ hi') : RdR w lo' hi' e cs := fun u hu => (h u (hu.sub h1 h2)).le h2
theorem RdR.leaf (w : World) (lo hi : Nat) (a : CL.At) (hn : a.n.length ≤ maxLen) : RdR w lo hi (.mk 0 a []) [.int .i64 0, .string ⟨a.n.toArray⟩, .int .i64 a.a.m, .int .i64 a.a.u, .slice none 0 0] := fun u hu =>
  Rd.of hn (by simp) (by simp) ⟨[], rfl, by simp, fun h => absurd rfl h, fun i h => by simp at h⟩
theorem RdR.node {w : World} {lo hi : Nat} {k : Int} {kids : List CL.Ex} {vs : List (List Value)} {A : Option Addr} {c : Nat} (hl : kids.length ≤ maxLen) (hc : kids.length ≤ c) (hv : vs.length = kids.length) (h5 : ∀ v ∈ vs, v.length = 5) (hs : SitsIn w lo hi A vs.flatten)
    (hk : ∀ i (h1 : i < kids.length) (h2 : i < vs.length), RdR w lo hi kids[i] vs[i]) : RdR w lo hi (.mk k ⟨[], ⟨0, 0⟩⟩ kids) [.int .i64 k, .string ⟨#[]⟩, .int .i64 0, .int .i64 0, .slice A kids.length c] := fun u hu =>
  Rd.of (a := ⟨[], ⟨0, 0⟩⟩) (by simp) hl hc ⟨vs, hv, h5, (hs.same hu).sitsB, fun i h1 h2 => hk i h1 h2 u hu⟩
/-- kids that are gathered: each in a range of its own, of which the row is no part -/
def KidsR (w : World) (base : Nat) (v : Value) (ats : List CL.At) (d : Nat) (kids : List CL.Ex) (vs : List (List Value)) : Prop :=
  vs.length = kids.length ∧ ∀ i (h1 : i < kids.length) (h2 : i < vs.length), CL.Grp ats d kids[i] ∧ vs[i].length = 5 ∧ ∃ lo hi, base ≤ lo ∧ hi ≤ w.heap.size ∧ RdR w lo hi kids[i] vs[i] ∧ ∀ b, v.ownBlock = some b → b < lo ∨ hi ≤ b
theorem KidsR.nil (w : World) (base : Nat) (v : Value) (ats : List CL.At) (d : Nat) : KidsR w base v ats d [] [] := ⟨rfl, fun i h => by simp at h⟩
theorem KidsR.only {w w' : World} {g base : Nat} {v : Value} {ats : List CL.At} {d : Nat} {kids : List CL.Ex} {vs : List (List Value)} (h : KidsR w base v ats d kids vs) (ho : Only g w w') (hg : g < base) : KidsR w' base v ats d kids vs :=
  ⟨h.1, fun i h1 h2 =>
    let ⟨a, b, lo, hi, h3, h4, h5, h6⟩ := h.2 i h1 h2
    ⟨a, b, lo, hi, h3, Nat.le_trans h4 ho.size, h5.same (Same.only ho (by omega) h4), h6⟩⟩
theorem KidsR.grown {w w' : World} {base : Nat} {v v' : Value} {ats : List CL.At} {d : Nat} {kids : List CL.Ex} {vs : List (List Value)} (h : KidsR w base v ats d kids vs) (ho : w.grownBy w' v.ownBlock) (hv : v'.ownBlock = v.ownBlock ∨ v'.ownBlock = some w.heap.size) : KidsR w' base v' ats d kids vs :=
  ⟨h.1, fun i h1 h2 =>
    let ⟨a, b, lo, hi, h3, h4, h5, h6⟩ := h.2 i h1 h2
    ⟨a, b, lo, hi, h3, Nat.le_trans h4 ho.size, h5.same (Same.grown ho (fun x e => h6 x e) h4), fun x e => by
      rcases hv with e' | e'
      · exact h6 x (e'.symm.trans e)
      · rw [e'] at e; injection e with e; omega⟩⟩
theorem KidsR.snoc {w : World} {base lo hi : Nat} {v : Value} {ats : List CL.At} {d : Nat} {kids : List CL.Ex} {vs : List (List Value)} (h : KidsR w base v ats d kids vs) {e : CL.Ex} {cs : List Value} (he : CL.Grp ats d e) (h5 : cs.length = 5) (hr : RdR w lo hi e cs) (h3 : base ≤ lo) (h4 : hi ≤ w.heap.size) (hv : ∀ b, v.ownBlock = some b → b < lo ∨ hi ≤ b) : KidsR w base v ats d (kids ++ [e]) (vs ++ [cs]) := by
  obtain ⟨hl, h⟩ := h
  refine ⟨by simp [hl], fun i h1 h2 => ?_⟩
  rcases Nat.lt_or_ge i kids.length with hlt | hge
  · have e1 : (kids ++ [e])[i] = kids[i] := List.getElem_append_left hlt
    have e2 : (vs ++ [cs])[i] = vs[i]'(by omega) := List.getElem_append_left (by omega)
    rw [e1, e2]; exact h i hlt (by omega)
  · have e0 : i = kids.length := by simp at h1; omega
    have e1 : (kids ++ [e])[i] = e := by simp [e0]
    have e2 : (vs ++ [cs])[i] = cs := by simp [e0, ← hl]
    rw [e1, e2]; exact ⟨he, h5, lo, hi, h3, h4, hr, hv⟩
end Go.Proofs.Ytmboojbhnmdnkaa
