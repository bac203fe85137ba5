
/- An expression that a call has made, in blocks of a range; kids that are gathered in a row. -/
import Derived.Test.YtmolffigeobnnaaNs
import Derived.Test.YtmolffigeobnnaaZ12
import Derived.Test.YtmolffigeobnnaaZ11
namespace Go.Proofs.Ytmolffigeobnnaa
open Go.RowKit
set_option linter.unusedVariables false
set_option linter.unusedSimpArgs false
inductive RdI (w : World) (lo hi : Nat) : CL.Ex → List Value → Prop
  | mk (k : Int) (n : List UInt8) (m u : Int) (kids : List CL.Ex) (A : Option Addr) (c : Nat) (vs : List (List Value)) (hn : n.length ≤ maxLen) (hl : kids.length ≤ maxLen) (hc : kids.length ≤ c)
      (hlen : vs.length = kids.length) (h5 : ∀ v ∈ vs, v.length = 5) (hs : SitsIn w lo hi A vs.flatten) (hk : ∀ i (h1 : i < kids.length) (h2 : i < vs.length), RdI w lo hi kids[i] vs[i]) :
      RdI w lo hi (.mk k ⟨n, ⟨m, u⟩⟩ kids) [.int .i64 k, .string ⟨n.toArray⟩, .int .i64 m, .int .i64 u, .slice A kids.length c]
theorem RdI.same {w w' : World} {lo hi : Nat} {e : CL.Ex} {cs : List Value} (h : RdI w lo hi e cs) (hs : Same w w' lo hi) : RdI w' lo hi e cs := by
  induction h with
  | mk k n m u kids A c vs hn hl hc hlen h5 hs' _ ih => exact .mk k n m u kids A c vs hn hl hc hlen h5 (hs'.same hs) ih
theorem RdI.wide {w : World} {lo hi lo' hi' : Nat} {e : CL.Ex} {cs : List Value} (h : RdI w lo hi e cs) (h1 : lo' ≤ lo) (h2 : hi ≤ hi') : RdI w lo' hi' e cs := by
  induction h with
  | mk k n m u kids A c vs hn hl hc hlen h5 hs' _ ih => exact .mk k n m u kids A c vs hn hl hc hlen h5 (hs'.wide h1 h2) ih
theorem RdI.rd {w : World} {lo hi : Nat} {e : CL.Ex} {cs : List Value} (h : RdI w lo hi e cs) : Rd w hi e cs := by
  induction h with
  | mk k n m u kids A c vs hn hl hc hlen h5 hs' _ ih => exact .mk k n m u kids A c vs hn hl hc hlen h5 hs'.sitsB ih
theorem RdI.shape {w : World} {lo hi : Nat} {e : CL.Ex} {cs : List Value} (h : RdI w lo hi e cs) : ∃ k n m u A l c, cs = [.int .i64 k, .string n, .int .i64 m, .int .i64 u, .slice A l c] := h.rd.shape
theorem RdI.len {w : World} {lo hi : Nat} {e : CL.Ex} {cs : List Value} (h : RdI w lo hi e cs) : cs.length = 5 := by
  obtain ⟨k, n, m, u, A, l, c, rfl⟩ := h.shape; rfl
theorem RdI.inv {w : World} {lo hi : Nat} {k : Int} {a : CL.At} {kids : List CL.Ex} {cs : List Value} (h : RdI w lo hi (.mk k a kids) cs) :
    ∃ (A : Option Addr) (c : Nat) (vs : List (List Value)), cs = [.int .i64 k, .string ⟨a.n.toArray⟩, .int .i64 a.a.m, .int .i64 a.a.u, .slice A kids.length c] ∧ a.n.length ≤ maxLen ∧ kids.length ≤ maxLen ∧ kids.length ≤ c ∧ vs.length = kids.length ∧ (∀ v ∈ vs, v.length = 5) ∧ SitsIn w lo hi A vs.flatten ∧ ∀ i (h1 : i < kids.length) (h2 : i < vs.length), RdI w lo hi kids[i] vs[i] := by
  cases h with
  | mk k n m u kids A c vs hn hl hc hlen h5 hs hk => exact ⟨A, c, vs, rfl, hn, hl, hc, hlen, h5, hs, hk⟩
theorem RdI.leaf (w : World) (lo hi : Nat) (k : Int) (a : CL.At) (A : Option Addr) (c : Nat) (hn : a.n.length ≤ maxLen) : RdI w lo hi (.mk k a []) [.int .i64 k, .string ⟨a.n.toArray⟩, .int .i64 a.a.m, .int .i64 a.a.u, .slice A 0 c] := by
  obtain ⟨n, m, u⟩ := a
  exact .mk k n m u [] A c [] hn (by simp) (by simp) rfl (by simp) (fun h => absurd rfl h) (fun i h => by simp at h)
/-- kids that are gathered: each in a range of its own, of which the row is no part -/
def KidsI (w : World) (base : Nat) (v : Value) (kids : List CL.Ex) (vs : List (List Value)) : Prop :=
  vs.length = kids.length ∧ ∀ i (h1 : i < kids.length) (h2 : i < vs.length), ∃ lo hi, base ≤ lo ∧ hi ≤ w.heap.size ∧ RdI w lo hi kids[i] vs[i] ∧ ∀ b, v.ownBlock = some b → b < lo ∨ hi ≤ b
theorem KidsI.nil (w : World) (base : Nat) (v : Value) : KidsI w base v [] [] := ⟨rfl, fun i h => by simp at h⟩
theorem KidsI.five {w : World} {base : Nat} {v : Value} {kids : List CL.Ex} {vs : List (List Value)} (h : KidsI w base v kids vs) : ∀ x ∈ vs, x.length = 5 := fun x hx => by
  obtain ⟨i, hi, rfl⟩ := List.mem_iff_getElem.1 hx
  obtain ⟨_, _, _, _, h3, _⟩ := h.2 i (by have := h.1; omega) hi
  exact h3.len
theorem KidsI.grown {w w' : World} {base : Nat} {v v' : Value} {r : Option Nat} {kids : List CL.Ex} {vs : List (List Value)} (h : KidsI w base v kids vs) (hg : w.grownBy w' r) (hr : ∀ x, r = some x → x < base ∨ v.ownBlock = some x ∨ w.heap.size ≤ x)
    (hv : v'.ownBlock = v.ownBlock ∨ ∀ x, v'.ownBlock = some x → w.heap.size ≤ x) : KidsI w' base v' kids vs :=
  ⟨h.1, fun i h1 h2 => by
    obtain ⟨lo, hi, h3, h4, h5, h6⟩ := h.2 i h1 h2
    refine ⟨lo, hi, h3, Nat.le_trans h4 hg.size, h5.same (Same.grown hg (fun x e => ?_) h4), fun x e => ?_⟩
    · rcases hr x e with k | k | k
      · omega
      · exact h6 x k
      · omega
    · rcases hv with k | k
      · exact h6 x (k.symm.trans e)
      · have := k x e; omega⟩
theorem KidsI.ext {w w' : World} {base : Nat} {v : Value} {kids : List CL.Ex} {vs : List (List Value)} (h : KidsI w base v kids vs) (hx : Ext w w') : KidsI w' base v kids vs := h.grown (r := none) (grown_ext hx) (fun x e => by cases e) (.inl rfl)
theorem KidsI.snoc {w : World} {base lo hi : Nat} {v : Value} {kids : List CL.Ex} {vs : List (List Value)} (h : KidsI w base v kids vs) {e : CL.Ex} {cs : List Value} (hr : RdI w lo hi e cs) (h3 : base ≤ lo) (h4 : hi ≤ w.heap.size) (hv : ∀ b, v.ownBlock = some b → b < lo ∨ hi ≤ b) : KidsI w base v (kids ++ [e]) (vs ++ [cs]) := by
  obtain ⟨hl, h⟩ := h
  refine ⟨by simp [hl], fun i h1 h2 => ?_⟩
  rcases Nat.lt_or_ge i kids.length with hlt | hge
  · have e1 : (kids ++ [e])[i] = kids[i] := List.getElem_append_left hlt
    have e2 : (vs ++ [cs])[i] = vs[i]'(by omega) := List.getElem_append_left (by omega)
    rw [e1, e2]; exact h i hlt (by omega)
  · have e0 : i = kids.length := by simp at h1; omega
    have e1 : (kids ++ [e])[i] = e := by simp [e0]
    have e2 : (vs ++ [cs])[i] = cs := by simp [e0, ← hl]
    rw [e1, e2]; exact ⟨lo, hi, h3, h4, hr, hv⟩
/-- a group over gathered kids -/
theorem KidsI.node {w : World} {base lo : Nat} {k : Int} {kids : List CL.Ex} {vs : List (List Value)} {A : Option Addr} {c : Nat} (h : KidsI w base (.slice A kids.length c) kids vs) (ho : w.ownsRow base 28 5 (.slice A kids.length c) kids.length vs.flatten) (hl : kids.length ≤ maxLen) (hb : lo ≤ base) :
    RdI w lo w.heap.size (.mk k CL.noAt kids) [.int .i64 k, .string ⟨#[]⟩, .int .i64 0, .int .i64 0, .slice A kids.length c] := by
  obtain ⟨A', c', e, hc, _⟩ := own_form ho
  injection e with e1 _ e3
  subst e1 e3
  exact RdI.mk (w := w) (lo := lo) (hi := w.heap.size) k [] 0 0 kids A c vs (by simp) hl hc h.1 h.five ((SitsIn.of (Sits.of_own ho) (fun b o _ e => own_base ho e)).wide hb (Nat.le_refl _)) (fun i a b => by
    obtain ⟨lo', hi', p1, p2, p3, _⟩ := h.2 i a b
    exact p3.wide (by omega) p2)
/-- an expression that a call makes -/
def MadeE (e : CL.Ex) (w : World) (r : Ending) (w' : World) : Prop := ∃ cs, r = .returned (.agg cs.toArray) ∧ RdI w' w.heap.size w'.heap.size e cs ∧ Ext w w'
theorem MadeE.get {e : CL.Ex} {w w' : World} {r : Ending} (h : MadeE e w r w') : ∃ k n m u A l c, r = .returned (.agg #[.int .i64 k, .string n, .int .i64 m, .int .i64 u, .slice A l c]) ∧ RdI w' w.heap.size w'.heap.size e [.int .i64 k, .string n, .int .i64 m, .int .i64 u, .slice A l c] ∧ Ext w w' := by
  obtain ⟨cs, rfl, h1, h2⟩ := h
  obtain ⟨k, n, m, u, A, l, c, rfl⟩ := h1.shape
  exact ⟨k, n, m, u, A, l, c, rfl, h1, h2⟩
theorem Same.ext {a b : World} (h : Ext a b) {lo hi : Nat} (h2 : hi ≤ a.heap.size) : Same a b lo hi := fun i h3 h4 => h.block i (by omega)
theorem RdI.ext {a b : World} {lo hi : Nat} {e : CL.Ex} {cs : List Value} (h : RdI a lo hi e cs) (hx : Ext a b) (h2 : hi ≤ a.heap.size) : RdI b lo hi e cs := h.same (Same.ext hx h2)
/-- behind the stores into the result's cells -/
theorem Same.set5 {w2 : World} {p lo hi : Nat} {v0 v1 v2 v3 v4 : Value} (hp : p < lo ∨ hi ≤ p) (h : hi ≤ w2.heap.size) : Same w2 (((((w2.setCell ⟨p, 0, none⟩ v0).setCell ⟨p, 1, none⟩ v1).setCell ⟨p, 2, none⟩ v2).setCell ⟨p, 3, none⟩ v3).setCell ⟨p, 4, none⟩ v4) lo hi :=
  Same.grown (r := some p) (((((Only.rf.set 0 v0).set 1 v1).set 2 v2).set 3 v3).set 4 v4) (fun x e => by injection e; omega) h
end Go.Proofs.Ytmolffigeobnnaa
