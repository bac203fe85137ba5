
/- The mill: the walk of group. -/
import Derived.Test.YtmboojbhnmdnkaaMg
import Derived.Test.YtmboojbhnmdnkaaLaw08
namespace Go.Proofs.Ytmboojbhnmdnkaa
open Go.RowKit
set_option linter.unusedVariables false
set_option linter.unusedSimpArgs false
theorem Sits.only {w w' : World} {g : Nat} {A : Option Addr} {xs : List Value} (h : Sits w A xs) (ho : Only g w w') (hg : ∀ b o, A = some ⟨b, o, none⟩ → g < b) : Sits w' A xs := fun hn => by
  obtain ⟨b, o, rfl, hc⟩ := h hn
  refine ⟨b, o, rfl, fun j u hu => ?_⟩
  have h6 := hc j u hu
  have h7 := ho.block b (World.block_lt_of_cell? _ _ h6) (fun e => by have := hg b o rfl; injection e; omega)
  rw [← h6]; unfold World.cell?; simp only [h7]
theorem atoms3 {w : World} {l : List CL.At} {b o : Nat} (hr : Sits w (some ⟨b, o, none⟩) (ats l)) {k : Nat} (h : k < l.length) :
    w.cell? ⟨b, o + k * 3, none⟩ = some (.string ⟨l[k].n.toArray⟩) ∧ w.cell? ⟨b, o + k * 3 + 1, none⟩ = some (.int .i64 l[k].a.m) ∧ w.cell? ⟨b, o + k * 3 + 2, none⟩ = some (.int .i64 l[k].a.u) := by
  obtain ⟨b', o', e, h1⟩ := hr.atoms h
  injection e with e; injection e with e1 e2; subst e1 e2; exact h1
/-- what group comes to -/
def GrpPost (w : World) (g : Nat) (l : List CL.At) (d : Nat) (r : Ending) (w' : World) : Prop := ∃ (e : CL.Ex) (cs : List Value), r = .returned (.agg cs.toArray) ∧ CL.Grp l d e ∧ RdR w' w.heap.size w'.heap.size e cs ∧ Only g w w' ∧ TapeAt w' g
theorem GrpPost.get {w w' : World} {g : Nat} {l : List CL.At} {d : Nat} {r : Ending} (h : GrpPost w g l d r w') : ∃ (e : CL.Ex) (k : Int) (n : ByteArray) (m u : Int) (A : Option Addr) (l1 c : Nat), r = .returned (.agg #[.int .i64 k, .string n, .int .i64 m, .int .i64 u, .slice A l1 c]) ∧ CL.Grp l d e ∧ RdR w' w.heap.size w'.heap.size e [.int .i64 k, .string n, .int .i64 m, .int .i64 u, .slice A l1 c] ∧ Only g w w' ∧ TapeAt w' g := by
  obtain ⟨e, cs, rfl, h1, h2, h3⟩ := h
  obtain ⟨k, n, m, u, A, l1, c, rfl⟩ := h2.rd.shape
  exact ⟨e, k, n, m, u, A, l1, c, rfl, h1, h2, h3⟩
theorem Only.setNew {g : Nat} {a b : World} (h : Only g a b) {p : Nat} (hp : a.heap.size ≤ p) (i : Nat) (u : Value) : Only g a (b.setCell ⟨p, i, none⟩ u) := h.grow (r := some p) (Only.rf.set i u) (fun x e => by injection e; omega)
theorem TapeAt.setNew {g : Nat} {b : World} (h : TapeAt b g) {p : Nat} (hp : g < p) (i : Nat) (u : Value) : TapeAt (b.setCell ⟨p, i, none⟩ u) g := h.grown (r := some p) (Only.rf.set i u) (fun x e => by injection e; omega)
theorem Same.setOut {b : World} {p lo hi : Nat} (hp : p < lo ∨ hi ≤ p) (i : Nat) (u : Value) (h : hi ≤ b.heap.size) : Same b (b.setCell ⟨p, i, none⟩ u) lo hi := Same.grown (r := some p) (Only.rf.set i u) (fun x e => by injection e; omega) h
theorem GrpPost.leaf {w w2 : World} {g : Nat} {l : List CL.At} {d k : Nat} {v0 v1 v2 v3 v4 : Value} (hk : k < l.length) (hn : l[k].n.length ≤ maxLen) (ho : Only g w w2) (hT : TapeAt w2 g) (hg : g < w.heap.size) :
    GrpPost w g l d (.returned (.agg #[.int .i64 0, .string ⟨l[k].n.toArray⟩, .int .i64 l[k].a.m, .int .i64 l[k].a.u, .slice none 0 0])) (((((w2.setCell ⟨w.heap.size, 0, none⟩ v0).setCell ⟨w.heap.size, 1, none⟩ v1).setCell ⟨w.heap.size, 2, none⟩ v2).setCell ⟨w.heap.size, 3, none⟩ v3).setCell ⟨w.heap.size, 4, none⟩ v4) :=
  ⟨_, _, rfl, .leaf d l[k] (List.getElem_mem hk), RdR.leaf _ _ _ _ hn,
    ((((ho.setNew (Nat.le_refl _) 0 v0).setNew (Nat.le_refl _) 1 v1).setNew (Nat.le_refl _) 2 v2).setNew (Nat.le_refl _) 3 v3).setNew (Nat.le_refl _) 4 v4,
    ((((hT.setNew hg 0 v0).setNew hg 1 v1).setNew hg 2 v2).setNew hg 3 v3).setNew hg 4 v4⟩
set_option maxHeartbeats 1600000 in
theorem group0 (l : List CL.At) (w : World) (g : Nat) (A : Option Addr) (c : Nat) (hT : TapeAt w g) (hl : l.length = 6) (hn : ∀ a ∈ l, a.n.length ≤ maxLen) (hr : Sits w A (ats l)) (hA : ∀ b o, A = some ⟨b, o, none⟩ → g < b) :
    Calls Try.prog 39 #[.pointer (some ⟨g, 0, none⟩), .slice A 6 c, .int .i64 0] w (GrpPost w g l 0) := by
  have hgl := hT.lt
  obtain ⟨b, o, rfl, hcell⟩ := hr.get (by rw [ats_len]; omega)
  have hB := Blk.new w 28 #[.int .i64 0, .string ⟨#[]⟩, .int .i64 0, .int .i64 0, .slice none 0 0]
  have hx0 := Ext.new w (.cells #[.int .i64 0, .string ⟨#[]⟩, .int .i64 0, .int .i64 0, .slice none 0 0] 28)
  have hT0 := hT.ext hx0
  have hr0 := hr.ext hx0
  go_enter Try.func39, Try.ntmps39
  go_wp2_with (go_at_call 37; refine (Tape.Next_c g 6 _ (by omega) (by omega) hT0).mono ?_; rintro r w2 ⟨x2, rfl, hn0, hn1, ho1, hT1⟩; obtain ⟨k2, rfl⟩ := Int.eq_ofNat_of_zero_le hn0; obtain ⟨c0, c1, c2⟩ := atoms3 (hr0.only ho1 hA) (k := k2) (by omega); have hB2 := hB.only ho1 (by omega); obtain ⟨e0, e1, e2, e3, e4⟩ := hB2.c5; have f0 := hB2.frozen 0; have f1 := hB2.frozen 1; have f2 := hB2.frozen 2; have f3 := hB2.frozen 3; have f4 := hB2.frozen 4)
  have HP := Lib.hid (GrpPost.leaf (w := w) (w2 := w2) (l := l) (k := k2) (d := 0) (v0 := .int .i64 0) (v1 := .string ⟨l[k2].n.toArray⟩) (v2 := .int .i64 l[k2].a.m) (v3 := .int .i64 l[k2].a.u) (v4 := .slice none 0 0) (by omega) (hn _ (List.getElem_mem (by omega))) ((Only.of_ext hx0).tr ho1) hT1 hgl)
  clear hr0 hr hcell hn
  (try simp only [Exit.inBlock, Exit.then])
  refine bodyPost_ret (by simp [results, Try.results39, go_sem, *]; try rfl) rfl ?_
  exact HP.out
end Go.Proofs.Ytmboojbhnmdnkaa
