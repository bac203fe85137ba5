
/- Catalogs: the walks of the reference's Find and Resolve. -/
import Derived.Test.YtmboojbhnmdnkaaCu
namespace CL
def fnd (l : List Re) (nm : List UInt8) : Option Re := l.find? (fun r => decide (r.n = nm))
def FTo (l : List Re) (nm : List UInt8) (j : Nat) : Prop := ∀ i, (hi : i < l.length) → i < j → l[i].n ≠ nm
theorem FTo.zero (l : List Re) (nm : List UInt8) : FTo l nm 0 := fun i _ h => by omega
theorem FTo.step {l : List Re} {nm : List UInt8} {j : Nat} (h : FTo l nm j) (hj : j < l.length) (hn : ¬ l[j].n = nm) : FTo l nm (j + 1) := by
  intro i hi hij
  by_cases e : i = j
  · subst e; exact hn
  · exact h i hi (by omega)
theorem fnd_hit {l : List Re} {nm : List UInt8} {j : Nat} (h : FTo l nm j) (hj : j < l.length) (hn : l[j].n = nm) : fnd l nm = some l[j] := by
  unfold fnd
  rw [List.find?_eq_some_iff_getElem]
  refine ⟨by simp [hn], j, hj, rfl, fun i hi => ?_⟩
  have := h i (by omega) hi
  simp [this]
theorem fnd_none {l : List Re} {nm : List UInt8} {j : Nat} (h : FTo l nm j) (hj : l.length ≤ j) : fnd l nm = none := by
  unfold fnd
  rw [List.find?_eq_none]
  intro x hx
  obtain ⟨i, hi, rfl⟩ := List.mem_iff_getElem.1 hx
  simp only [decide_eq_true_eq]
  exact h i hi (by omega)
noncomputable def cres (l : List Re) (a : At) : Int := if vcat l = true then (match fnd l a.n with | none => 10 | some r => if fits r.k r.u a.a = true then 0 else 12) else 2
end CL
namespace Go.Proofs.Ytmboojbhnmdnkaa
open Go.RowKit
set_option linter.unusedVariables false
def FindPost (l : List CL.Re) (nm : List UInt8) (w : World) (r : Ending) (w' : World) : Prop :=
  (match CL.fnd l nm with
    | none => r = .returned (.tuple #[.agg #[.string ⟨#[]⟩, .int .i64 0, .int .i64 0, .int .i64 0], .bool false])
    | some x => r = .returned (.tuple #[.agg #[.string ⟨x.n.toArray⟩, .int .i64 x.k, .int .i64 x.u, .int .i64 x.h], .bool true])) ∧ Ext w w'
theorem Blk.set4 {w : World} {g : Nat} {t : TypeId} {a b c d : Value} (h : Blk w g t #[a, b, c, d]) (a' b' c' d' : Value) : Blk ((((w.setCell ⟨g, 0, none⟩ a').setCell ⟨g, 1, none⟩ b').setCell ⟨g, 2, none⟩ c').setCell ⟨g, 3, none⟩ d') g t #[a', b', c', d'] := by
  have := (((h.set 0 a').set 1 b').set 2 c').set 3 d'
  simpa using this
set_option maxHeartbeats 1600000 in
theorem clusterlocksref05.Find_c (l : List CL.Re) (nm : List UInt8) (A : Option Addr) (c : Nat) (w : World) (hl : l.length ≤ maxLen) (hr : Sits w A (recs l)) : Calls Try.prog 55 #[.slice A l.length c, .string ⟨nm.toArray⟩] w (FindPost l nm w) := by
  unfold maxLen at hl
  have HV := Lib.hid (CL.FTo.zero l nm)
  go_enter Try.func55, Try.ntmps55
  go_wp2
  obtain ⟨bE, hx0⟩ := box1 w #[.string ⟨#[]⟩, .int .i64 0, .int .i64 0, .int .i64 0] 59
  generalize (w.alloc (.cells #[.string ⟨#[]⟩, .int .i64 0, .int .i64 0, .int .i64 0] 59)) = w1 at *
  go_loop [6] (fun i => ∃ j : Nat, j ≤ l.length ∧ i = .int .i64 j ∧ Hid (CL.FTo l nm j)) (fun i => l.length - (intOf i).toNat)
  case atStart => exact ⟨0, by omega, rfl, HV⟩
  case round =>
    obtain ⟨j, hj, rfl, HJ⟩ := hrel
    have e0 : w1.cell? ⟨w.heap.size, 0, none⟩ = some (.string ⟨#[]⟩) := bE.cell 0
    have e1 : w1.cell? ⟨w.heap.size, 1, none⟩ = some (.int .i64 0) := bE.cell 1
    have e2 : w1.cell? ⟨w.heap.size, 2, none⟩ = some (.int .i64 0) := bE.cell 2
    have e3 : w1.cell? ⟨w.heap.size, 3, none⟩ = some (.int .i64 0) := bE.cell 3
    have f0 := bE.frozen 0
    have f1 := bE.frozen 1
    have f2 := bE.frozen 2
    have f3 := bE.frozen 3
    by_cases hlt : j < l.length
    · obtain ⟨b, o, rfl, c0, c1, c2, c3⟩ := (hr.ext hx0).recs hlt
      have H1 := Lib.hid (fun h => CL.fnd_hit HJ.out hlt h)
      have H2 := Lib.hid (fun h => HJ.out.step hlt h)
      generalize l[j] = r0 at *
      by_cases heq : r0.n = nm
      · have H3 := Lib.hid (H1.out heq)
        have hq : (r0.n == nm) = true := by simp [heq]
        clear heq
        go_wp2
        obtain ⟨h0, h1, h2, h3⟩ := (bE.set4 (.string ⟨r0.n.toArray⟩) (.int .i64 r0.k) (.int .i64 r0.u) (.int .i64 r0.h)).c4r
        refine bodyPost_ret (v := .tuple #[.agg #[.string ⟨r0.n.toArray⟩, .int .i64 r0.k, .int .i64 r0.u, .int .i64 r0.h], .bool true]) (by simp [results, Try.results55, go_sem, h0, h1, h2, h3]) rfl ?_
        unfold FindPost
        rw [H3.out]
        exact ⟨rfl, (((hx0.setCell (p := ⟨w.heap.size, 0, none⟩) (Nat.le_refl _) _).setCell (p := ⟨w.heap.size, 1, none⟩) (Nat.le_refl _) _).setCell (p := ⟨w.heap.size, 2, none⟩) (Nat.le_refl _) _).setCell (p := ⟨w.heap.size, 3, none⟩) (Nat.le_refl _) _⟩
      · have H3 := Lib.hid (H2.out heq)
        have hq : (r0.n == nm) = false := beq_eq_false_iff_ne.2 heq
        clear heq
        go_wp2
        exact ⟨⟨j + 1, by omega, by go_num, H3⟩, by simp [intOf]; omega⟩
    · have H3 := Lib.hid (CL.fnd_none HJ.out (by omega))
      go_wp2
      obtain ⟨h0, h1, h2, h3⟩ := (bE.set4 (.string ⟨#[]⟩) (.int .i64 0) (.int .i64 0) (.int .i64 0)).c4r
      refine bodyPost_ret (v := .tuple #[.agg #[.string ⟨#[]⟩, .int .i64 0, .int .i64 0, .int .i64 0], .bool false]) (by simp [results, Try.results55, go_sem, h0, h1, h2, h3]) rfl ?_
      unfold FindPost
      rw [H3.out]
      exact ⟨rfl, (((hx0.setCell (p := ⟨w.heap.size, 0, none⟩) (Nat.le_refl _) _).setCell (p := ⟨w.heap.size, 1, none⟩) (Nat.le_refl _) _).setCell (p := ⟨w.heap.size, 2, none⟩) (Nat.le_refl _) _).setCell (p := ⟨w.heap.size, 3, none⟩) (Nat.le_refl _) _⟩
theorem FindPost.un_n {l : List CL.Re} {nm : List UInt8} {w w' : World} {r : Ending} (h : CL.fnd l nm = none) (hp : FindPost l nm w r w') : r = .returned (.tuple #[.agg #[.string ⟨#[]⟩, .int .i64 0, .int .i64 0, .int .i64 0], .bool false]) ∧ Ext w w' := by
  unfold FindPost at hp; rw [h] at hp; exact hp
theorem FindPost.un_s {l : List CL.Re} {nm : List UInt8} {w w' : World} {r : Ending} {x : CL.Re} (h : CL.fnd l nm = some x) (hp : FindPost l nm w r w') : r = .returned (.tuple #[.agg #[.string ⟨x.n.toArray⟩, .int .i64 x.k, .int .i64 x.u, .int .i64 x.h], .bool true]) ∧ Ext w w' := by
  unfold FindPost at hp; rw [h] at hp; exact hp
set_option maxHeartbeats 1600000 in
theorem clusterlocksref05.Resolve_c (l : List CL.Re) (a : CL.At) (A : Option Addr) (c : Nat) (w : World) (hl : l.length ≤ maxLen) (hn : ∀ r ∈ l, r.n.length ≤ maxLen) (hr : Sits w A (recs l)) : Calls Try.prog 41 #[.slice A l.length c, .agg #[.string ⟨a.n.toArray⟩, .int .i64 a.a.m, .int .i64 a.a.u]] w fun r w' => r = .returned (.int .i64 (CL.cres l a)) ∧ Ext w w' := by
  obtain ⟨nm, m, u⟩ := a
  obtain ⟨bE, hx0⟩ := box1 w #[.string ⟨nm.toArray⟩, .int .i64 m, .int .i64 u] 25
  cases hv : CL.vcat l
  · have HF := Lib.hid (show CL.cres l ⟨nm, ⟨m, u⟩⟩ = 2 by simp [CL.cres, hv])
    go_enter Try.func41, Try.ntmps41
    go_wp2_with (go_at_call 54; (with_reducible refine (clusterlocksref05.Valid_c l _ _ _ hl hn (hr.ext hx0)).mono ?_); rintro r w1 ⟨rfl, hx⟩)
    go_ret
    exact ⟨ret_int HF.out.symm, hx0.tr hx⟩
  · cases hfn : CL.fnd l nm with
    | none =>
      have HF := Lib.hid (show CL.cres l ⟨nm, ⟨m, u⟩⟩ = 10 by simp [CL.cres, hv, hfn])
      go_enter Try.func41, Try.ntmps41
      go_wp2_with (first
        | (go_at_call 54; (with_reducible refine (clusterlocksref05.Valid_c l _ _ _ hl hn (hr.ext hx0)).mono ?_); rintro r w1 ⟨rfl, hx⟩; have d0 : w1.cell? ⟨w.heap.size, 0, none⟩ = some (.string ⟨nm.toArray⟩) := (bE.ext hx).cell 0)
        | (go_at_call 55; (with_reducible refine (clusterlocksref05.Find_c l nm _ _ _ hl ((hr.ext hx0).ext hx)).mono ?_); intro r w2 hp; obtain ⟨rfl, hx2⟩ := hp.un_n hfn))
      go_ret
      exact ⟨ret_int HF.out.symm, hx0.tr (hx.tr (hx2.tr (Ext.new _ _)))⟩
    | some x =>
      have HF := Lib.hid (show CL.cres l ⟨nm, ⟨m, u⟩⟩ = if CL.fits x.k x.u ⟨m, u⟩ = true then 0 else 12 by simp [CL.cres, hv, hfn])
      cases hft : CL.fits x.k x.u ⟨m, u⟩
      all_goals
        go_enter Try.func41, Try.ntmps41
        go_wp2_with (first
          | (go_at_call 54; (with_reducible refine (clusterlocksref05.Valid_c l _ _ _ hl hn (hr.ext hx0)).mono ?_); rintro r w1 ⟨rfl, hx⟩; have d0 : w1.cell? ⟨w.heap.size, 0, none⟩ = some (.string ⟨nm.toArray⟩) := (bE.ext hx).cell 0)
          | (go_at_call 55; (with_reducible refine (clusterlocksref05.Find_c l nm _ _ _ hl ((hr.ext hx0).ext hx)).mono ?_); intro r w2 hp; obtain ⟨rfl, hx2⟩ := hp.un_s hfn; have bE2 := (bE.ext (hx.tr hx2)).alloc (.cells #[.string ⟨x.n.toArray⟩, .int .i64 x.k, .int .i64 x.u, .int .i64 x.h] 59); have d1 := bE2.cell 1; have d2 := bE2.cell 2; have d1' : (w2.alloc (.cells #[.string ⟨x.n.toArray⟩, .int .i64 x.k, .int .i64 x.u, .int .i64 x.h] 59)).cell? ⟨w.heap.size, 1, none⟩ = some (.int .i64 m) := d1; have d2' : (w2.alloc (.cells #[.string ⟨x.n.toArray⟩, .int .i64 x.k, .int .i64 x.u, .int .i64 x.h] 59)).cell? ⟨w.heap.size, 2, none⟩ = some (.int .i64 u) := d2; have e1' : w2.cell? ⟨w.heap.size, 1, none⟩ = some (.int .i64 m) := (bE.ext (hx.tr hx2)).cell 1; have e2' : w2.cell? ⟨w.heap.size, 2, none⟩ = some (.int .i64 u) := (bE.ext (hx.tr hx2)).cell 2; have hlt2 : w.heap.size < w2.heap.size := (bE.ext (hx.tr hx2)).lt)
          | (go_at_call 56; (with_reducible refine (clusterlocksref04.Fits_c _ _ _ _ _ _ _).mono ?_); rintro r w3 ⟨rfl, hx3⟩))
        go_ret
        exact ⟨ret_int (by rw [HF.out, hft]; rfl), hx0.tr (hx.tr (hx2.tr ((Ext.new _ _).tr hx3)))⟩
end Go.Proofs.Ytmboojbhnmdnkaa
