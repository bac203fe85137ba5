
/- An expression that stands in memory: its five cells, and its kids behind a slice, all in blocks below a bound. -/
import Derived.Test.YtaebindbadfaaaaEx
import Derived.Test.YtaebindbadfaaaaBk
import Derived.Test.YtaebindbadfaaaaOp
import Derived.Test.YtaebindbadfaaaaXq
namespace Go.Proofs.Ytaebindbadfaaaa
open Go.RowKit
/-- cells at an address, in a block below B -/
def SitsB (w : World) (B : Nat) (A : Option Addr) (xs : List Value) : Prop :=
  xs ≠ [] → ∃ b o, A = some ⟨b, o, none⟩ ∧ b < B ∧ ∀ j u, xs[j]? = some u → w.cell? ⟨b, o + j, none⟩ = some u
theorem SitsB.below {w w' : World} {B : Nat} {A : Option Addr} {xs : List Value} (h : SitsB w B A xs) (hb : Below B w w') : SitsB w' B A xs := fun hn =>
  let ⟨b, o, e, h1, hc⟩ := h hn
  ⟨b, o, e, h1, fun j u hu => by rw [hb.cell (p := ⟨b, o + j, none⟩) h1]; exact hc j u hu⟩
theorem SitsB.of {w : World} {A : Option Addr} {xs : List Value} (h : Sits w A xs) : SitsB w w.heap.size A xs := fun hn =>
  let ⟨b, o, e, hc⟩ := h hn
  ⟨b, o, e, (by
    cases xs with
    | nil => exact absurd rfl hn
    | cons x xs => exact World.block_lt_of_cell? w _ (hc 0 x rfl)), hc⟩
theorem SitsB.le {w : World} {B B' : Nat} {A : Option Addr} {xs : List Value} (h : SitsB w B A xs) (hb : B ≤ B') : SitsB w B' A xs := fun hn =>
  let ⟨b, o, e, h1, hc⟩ := h hn
  ⟨b, o, e, by omega, hc⟩
inductive Rd (w : World) (B : Nat) : CL.Ex → List Value → Prop
  | mk (k : Int) (n : List UInt8) (m u : Int) (kids : List CL.Ex) (A : Option Addr) (c : Nat) (vs : List (List Value)) (hn : n.length ≤ maxLen) (hl : kids.length ≤ maxLen) (hc : kids.length ≤ c)
      (hlen : vs.length = kids.length) (h5 : ∀ v ∈ vs, v.length = 5) (hs : SitsB w B A vs.flatten) (hk : ∀ i (h1 : i < kids.length) (h2 : i < vs.length), Rd w B kids[i] vs[i]) :
      Rd w B (.mk k ⟨n, ⟨m, u⟩⟩ kids) [.int .i64 k, .string ⟨n.toArray⟩, .int .i64 m, .int .i64 u, .slice A kids.length c]
theorem Rd.kept {w w' : World} {B : Nat} {e : CL.Ex} {cs : List Value} (h : Rd w B e cs) (hb : Below B w w') : Rd w' B e cs := by
  induction h with
  | mk k n m u kids A c vs hn hl hc hlen h5 hs _ ih => exact .mk k n m u kids A c vs hn hl hc hlen h5 (hs.below hb) ih
theorem Rd.le {w : World} {B B' : Nat} {e : CL.Ex} {cs : List Value} (h : Rd w B e cs) (hb : B ≤ B') : Rd w B' e cs := by
  induction h with
  | mk k n m u kids A c vs hn hl hc hlen h5 hs _ ih => exact .mk k n m u kids A c vs hn hl hc hlen h5 (hs.le hb) ih
theorem Rd.ext {w w' : World} {B : Nat} {e : CL.Ex} {cs : List Value} (h : Rd w B e cs) (hx : Ext w w') (hB : B ≤ w.heap.size) : Rd w' B e cs := h.kept (hx.mono hB)
/-- one element's five cells -/
theorem five {w : World} {b o : Nat} {vs : List (List Value)} (h5 : ∀ v ∈ vs, v.length = 5) (hc : ∀ j u, vs.flatten[j]? = some u → w.cell? ⟨b, o + j, none⟩ = some u) {i : Nat} (hi : i < vs.length) :
    ∃ v0 v1 v2 v3 v4, vs[i] = [v0, v1, v2, v3, v4] ∧ w.cell? ⟨b, o + i * 5, none⟩ = some v0 ∧ w.cell? ⟨b, o + i * 5 + 1, none⟩ = some v1 ∧ w.cell? ⟨b, o + i * 5 + 2, none⟩ = some v2 ∧ w.cell? ⟨b, o + i * 5 + 3, none⟩ = some v3 ∧ w.cell? ⟨b, o + i * 5 + 4, none⟩ = some v4 := by
  have hl := h5 vs[i] (List.getElem_mem _)
  have hg : ∀ k, k < 5 → vs.flatten[i * 5 + k]? = vs[i][k]? := fun k hk => get_flat h5 hi hk
  generalize vs[i] = v at *
  match v, hl with
  | [v0, v1, v2, v3, v4], _ =>
    refine ⟨v0, v1, v2, v3, v4, rfl, ?_, ?_, ?_, ?_, ?_⟩
    · exact hc (i * 5 + 0) v0 (hg 0 (by decide))
    · exact hc (i * 5 + 1) v1 (hg 1 (by decide))
    · exact hc (i * 5 + 2) v2 (hg 2 (by decide))
    · exact hc (i * 5 + 3) v3 (hg 3 (by decide))
    · exact hc (i * 5 + 4) v4 (hg 4 (by decide))
theorem SitsB.get {w : World} {B : Nat} {A : Option Addr} {vs : List (List Value)} (h : SitsB w B A vs.flatten) (h5 : ∀ v ∈ vs, v.length = 5) (hl : 0 < vs.length) :
    ∃ b o, A = some ⟨b, o, none⟩ ∧ b < B ∧ ∀ j u, vs.flatten[j]? = some u → w.cell? ⟨b, o + j, none⟩ = some u :=
  h (fun e => by have := flat_len h5; rw [e] at this; simp at this; omega)
/-- the kids of an expression, behind a slice at A -/
def Kids (w : World) (B : Nat) (A : Option Addr) (kids : List CL.Ex) : Prop :=
  ∃ vs : List (List Value), vs.length = kids.length ∧ (∀ v ∈ vs, v.length = 5) ∧ SitsB w B A vs.flatten ∧ ∀ i (h1 : i < kids.length) (h2 : i < vs.length), Rd w B kids[i] vs[i]
theorem Kids.below {w w' : World} {B : Nat} {A : Option Addr} {kids : List CL.Ex} (h : Kids w B A kids) (hb : Below B w w') : Kids w' B A kids :=
  let ⟨vs, h1, h2, h3, h4⟩ := h
  ⟨vs, h1, h2, h3.below hb, fun i a b => (h4 i a b).kept hb⟩
theorem Kids.le {w : World} {B B' : Nat} {A : Option Addr} {kids : List CL.Ex} (h : Kids w B A kids) (hb : B ≤ B') : Kids w B' A kids :=
  let ⟨vs, h1, h2, h3, h4⟩ := h
  ⟨vs, h1, h2, h3.le hb, fun i a b => (h4 i a b).le hb⟩
theorem Rd.inv {w : World} {B : Nat} {k : Int} {a : CL.At} {kids : List CL.Ex} {cs : List Value} (h : Rd w B (.mk k a kids) cs) :
    ∃ A c, cs = [.int .i64 k, .string ⟨a.n.toArray⟩, .int .i64 a.a.m, .int .i64 a.a.u, .slice A kids.length c] ∧ a.n.length ≤ maxLen ∧ kids.length ≤ maxLen ∧ kids.length ≤ c ∧ Kids w B A kids := by
  cases h with
  | mk k n m u kids A c vs hn hl hc hlen h5 hs hk => exact ⟨A, c, rfl, hn, hl, hc, vs, hlen, h5, hs, hk⟩
theorem Rd.of {w : World} {B : Nat} {k : Int} {a : CL.At} {kids : List CL.Ex} {A : Option Addr} {c : Nat} (hn : a.n.length ≤ maxLen) (hl : kids.length ≤ maxLen) (hc : kids.length ≤ c) (h : Kids w B A kids) :
    Rd w B (.mk k a kids) [.int .i64 k, .string ⟨a.n.toArray⟩, .int .i64 a.a.m, .int .i64 a.a.u, .slice A kids.length c] :=
  let ⟨vs, h1, h2, h3, h4⟩ := h
  .mk k a.n a.a.m a.a.u kids A c vs hn hl hc h1 h2 h3 h4
theorem Rd.shape {w : World} {B : Nat} {e : CL.Ex} {cs : List Value} (h : Rd w B e cs) : ∃ k n m u A l c, cs = [.int .i64 k, .string n, .int .i64 m, .int .i64 u, .slice A l c] := by
  cases h with
  | mk k n m u kids A c vs hn hl hc hlen h5 hs hk => exact ⟨k, _, m, u, A, _, c, rfl⟩
theorem Kids.get {w : World} {B : Nat} {A : Option Addr} {kids : List CL.Ex} (h : Kids w B A kids) {j : Nat} (hj : j < kids.length) :
    ∃ b o k n m u A' l c, A = some ⟨b, o, none⟩ ∧ b < B ∧ Rd w B kids[j] [.int .i64 k, .string n, .int .i64 m, .int .i64 u, .slice A' l c] ∧
      w.cell? ⟨b, o + j * 5, none⟩ = some (.int .i64 k) ∧ w.cell? ⟨b, o + j * 5 + 1, none⟩ = some (.string n) ∧ w.cell? ⟨b, o + j * 5 + 2, none⟩ = some (.int .i64 m) ∧ w.cell? ⟨b, o + j * 5 + 3, none⟩ = some (.int .i64 u) ∧ w.cell? ⟨b, o + j * 5 + 4, none⟩ = some (.slice A' l c) := by
  obtain ⟨vs, h1, h2, h3, h4⟩ := h
  obtain ⟨b, o, e, hb, hc⟩ := h3.get h2 (by omega)
  have hr := h4 j hj (by omega)
  obtain ⟨k, n, m, u, A', l, c, he⟩ := hr.shape
  obtain ⟨v0, v1, v2, v3, v4, e5, c0, c1, c2, c3, c4⟩ := five h2 hc (i := j) (by omega)
  rw [he] at e5 hr
  simp only [List.cons.injEq, and_true] at e5
  obtain ⟨rfl, rfl, rfl, rfl, rfl⟩ := e5
  exact ⟨b, o, k, n, m, u, A', l, c, e, hb, hr, c0, c1, c2, c3, c4⟩
end Go.Proofs.Ytaebindbadfaaaa
