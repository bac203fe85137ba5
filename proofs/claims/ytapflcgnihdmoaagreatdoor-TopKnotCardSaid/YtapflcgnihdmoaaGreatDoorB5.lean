/- The tables as the program's text lays them: the state that holds them alone. -/
import Derived.Test.YtapflcgnihdmoaaGreatDoorA9
import Derived.Test.YtapflcgnihdmoaaGreatDoorB1
import Derived.LaidLaws
import Derived.Lib.LaidTab
import Derived.ChangeArms
import Derived.OpenShut
import Derived.Test.YtapflcgnihdmoaaGreatDoorRows
namespace X
open Go Go.Proofs Go.RowKit Go.Proofs.YtapflcgnihdmoaaGreatDoor
set_option linter.unusedVariables false
set_option linter.unusedSectionVars false
set_option maxRecDepth 100000
def objN (t : TypeId) : Obj := .cells (tabN.map fun n => Value.int .u8 (.ofNat n)).toArray t (0, 0)
def objB (t : TypeId) : Obj := .cells (tabB.map Value.bool).toArray t (0, 0)
theorem gTab : Tryz.prog.globalNamed "clusterlocks/mode.together" = some 2 := by kernel_rfl
theorem gTabType : (Tryz.prog.globals[2]?).map (·.type) = some 420 := by kernel_rfl
theorem gBr : Tryz.prog.globalNamed "math/bits.deBruijn64tab" = some 0 := by kernel_rfl
theorem gBrType : (Tryz.prog.globals[0]?).map (·.type) = some 239 := by kernel_rfl
theorem cells420 : Tryz.prog.cellsOf 420 = 25 := by kernel_rfl
theorem cells419 : Tryz.prog.cellsOf 419 = 5 := by kernel_rfl
theorem cells4 : Tryz.prog.cellsOf 4 = 1 := by kernel_rfl
theorem cells239 : Tryz.prog.cellsOf 239 = 64 := by kernel_rfl
theorem cells5 : Tryz.prog.cellsOf 5 = 1 := by kernel_rfl
theorem trod_bool_at {H : Type} {enc : TypeId × Value → H} {w : World} {base : Nat} {sp : Nat → Bool} {held : Bool} {fuel : Nat} {c : List Value} {b : Bool} {p : List MemPlace}
    (h : DataW.trod enc Tryz.prog w base sp held fuel 4 c = some (.lit (.bool b), p)) : c = [.bool b] := by
  cases fuel with
  | zero => simp [DataW.trod] at h
  | succ m =>
    unfold DataW.trod at h
    rw [Tryz.underlying4] at h
    split at h <;> simp_all
theorem var_heap {w : World} {n : String} {g : Nat} {cs : Array Value} (hg : Tryz.prog.globalNamed n = some g) (h : w.var? Tryz.prog n = some cs) : ∃ t f, w.heap[g]? = some (.cells cs t f) := by
  unfold World.var? at h
  rw [hg] at h
  simp only [Option.bind_some] at h
  split at h
  · rename_i c t f e
    obtain rfl := Option.some.inj h
    exact ⟨t, f, e⟩
  · cases h
/-- the tables, as they lie -/
theorem tab_of_laid {W : World} (h0 : laidMetH Tryz.prog [("clusterlocks/mode.together", Rows.laid_clusterlocks_mode_together), ("math/bits.deBruijn64tab", Rows.laid_math_bits_deBruijn64tab)] W) : ∃ t0 t2, W.heap[0]? = some (objN t0) ∧ W.heap[2]? = some (objB t2) := by
  have h : laidMet Tryz.prog [("clusterlocks/mode.together", Rows.laid_clusterlocks_mode_together), ("math/bits.deBruijn64tab", Rows.laid_math_bits_deBruijn64tab)] W := h0
  obtain ⟨ps, ⟨g1, t1, c1, f1, p1, q1, hg1, ht1, hv1, hd1, ⟨g2, t2, c2, f2, p2, q2, hg2, ht2, hv2, hd2, _, hq1⟩, hps⟩, _, hcell⟩ := h
  obtain rfl := Option.some.inj (gTab.symm.trans hg1)
  obtain rfl := Option.some.inj (gTabType.symm.trans ht1)
  obtain rfl := Option.some.inj (gBr.symm.trans hg2)
  obtain rfl := Option.some.inj (gBrType.symm.trans ht2)
  obtain ⟨u1, k1, e1⟩ := var_heap gTab hv1
  obtain ⟨u2, k2, e2⟩ := var_heap gBr hv2
  have hN : c2.toList = tabN.map fun n => Value.int .u8 (.ofNat n) := by
    have hdat : (Rows.laid_math_bits_deBruijn64tab : DataW Unit) = Lib.tabData .u8 (tabN.map Int.ofNat) := by kernel_rfl
    rw [hdat] at hd2
    rw [Lib.cells_of_tab Tryz.underlying239 Tryz.underlying5 cells5 cells239 hd2, List.map_map]
    rfl
  have hB : c1.toList = tabB.map Value.bool := by
    obtain ⟨xs, m, _, hx, hcl, hxl, hi⟩ := DataW.trod_array Tryz.underlying420 hd1
    simp only [Prod.mk.injEq, Rows.laid_clusterlocks_mode_together, DataW.agg.injEq] at hx
    rw [cells420] at hcl
    apply List.ext_getElem?
    intro q
    by_cases hq : q < 25
    · have hi5 : q / 5 < 5 := by omega
      have hj5 : q % 5 < 5 := by omega
      have hqe : q / 5 * 5 + q % 5 = q := by omega
      generalize q / 5 = i at hi5 hqe
      generalize q % 5 = j at hj5 hqe
      have h1 := hi i hi5
      have h2 : xs[i]? = some xs[i] := List.getElem?_eq_getElem (by omega)
      rw [h2] at h1
      obtain ⟨ys, m', _, hy, hcl', hyl, hj⟩ := DataW.trod_array Tryz.underlying419 h1
      have h3 := hj j hj5
      have h4 : ys[j]? = some ys[j] := List.getElem?_eq_getElem (by omega)
      rw [h4] at h3
      have hrow : ∃ b, (xs.map (·.1))[i]? = some (.agg (ys.map (·.1))) ∧ ((ys.map (·.1))[j]? = some b ∧ b = ys[j].1) := ⟨_, by simp [h2, hy], by simp [h4], rfl⟩
      obtain ⟨b, hb1, hb2, hb3⟩ := hrow
      have hb : ∃ v, b = .lit (.bool v) ∧ tabB[i * 5 + j]? = some v := by
        rw [← hx.1] at hb1
        have ei : i = 0 ∨ i = 1 ∨ i = 2 ∨ i = 3 ∨ i = 4 := by omega
        have ej : j = 0 ∨ j = 1 ∨ j = 2 ∨ j = 3 ∨ j = 4 := by omega
        rcases ei with rfl | rfl | rfl | rfl | rfl <;> simp at hb1 <;> rw [← hb1] at hb2 <;> rcases ej with rfl | rfl | rfl | rfl | rfl <;> simp at hb2 <;> exact ⟨_, hb2.symm, rfl⟩
      obtain ⟨v, hb, hv⟩ := hb
      have h5 : ys[j] = (.lit (.bool v), ys[j].2) := by rw [← hb, hb3]
      rw [h5] at h3
      have h6 := trod_bool_at h3
      rw [cells419, cells4] at h6
      have h7 := congrArg (·[0]?) h6
      simp [List.getElem?_take, List.getElem?_drop] at h7
      rw [← hqe]
      simp only [List.getElem?_map, hv, Option.map_some]
      simpa using h7.2
    · rw [List.getElem?_eq_none (by omega), List.getElem?_eq_none (by show 25 ≤ q; omega)]
  have z1 : c1.size = 25 := by rw [← Array.length_toList, hB]; rfl
  have z2 : c2.size = 64 := by rw [← Array.length_toList, hN]; rfl
  refine ⟨u2, u1, ?_, ?_⟩
  · obtain ⟨⟨c, t, e⟩, _⟩ := hcell 0 0 (by rw [hps, hq1]; simp [MemPlace.mem_row, z2])
    rw [e2] at e
    simp only [Option.some.injEq, Obj.cells.injEq] at e
    rw [e2, e.2.2]
    show _ = some (Obj.cells _ _ _)
    rw [← hN]
  · obtain ⟨⟨c, t, e⟩, _⟩ := hcell 2 0 (by rw [hps]; simp [MemPlace.mem_row, z1])
    rw [e1] at e
    simp only [Option.some.injEq, Obj.cells.injEq] at e
    rw [e1, e.2.2]
    show _ = some (Obj.cells _ _ _)
    rw [← hB]
section
variable [Luck]
noncomputable def mu0 : Mu := fun b => if b = gl 0 then some ⟨0, 0, 64, 64⟩ else if b = gl 2 then some ⟨2, 0, 25, 25⟩ else none
theorem vc_map {α : Type} {μ : Mu} {f : α → AV} {g : α → Value} (h : ∀ a, VRel μ (f a) (g a) ∧ (g a).oneCell' = true) : ∀ l : List α, VC μ (l.map f) (l.map g)
  | [] => VC.nil
  | a :: l => VC.cons (h a).1 (h a).2 (vc_map h l)
theorem start {t0 t2 : TypeId} (hL : Luck.tab = [(0, objN t0), (2, objB t2)]) : Start S0 := by
  have hS : ∀ b o, hget b (hp S0) = .ob o → (b = gl 0 ∧ o = .glob 64 [tabN.map fun n => .int .u8 (.ofNat n)]) ∨ (b = gl 2 ∧ o = .glob 25 [tabB.map .bool]) := by
    rintro ⟨a, b, c, d, e, f⟩ o h
    cases a <;> first | (cases h; done) | skip
    cases b <;> first | (cases h; done) | skip
    cases c <;> first | (cases h; done) | skip
    cases d <;> first | (cases h; done) | skip
    cases e <;> first | (cases h; done) | skip
    cases f <;> first | (cases h; done) | skip
    · left; refine ⟨rfl, ?_⟩; injection h with h1; exact h1.symm
    · right; refine ⟨rfl, ?_⟩; injection h with h1; exact h1.symm
  refine ⟨fun w hT => ⟨mu0, ?_, ⟨_, rfl, rfl, rfl⟩, ⟨_, rfl, rfl, rfl⟩⟩, fun b o h => ?_⟩
  · have w0 : w.heap[0]? = some (objN t0) := hT (0, objN t0) (by rw [hL]; simp)
    have w2 : w.heap[2]? = some (objB t2) := hT (2, objB t2) (by rw [hL]; simp)
    have hmu : ∀ b p, mu0 b = some p → (b = gl 0 ∧ p = ⟨0, 0, 64, 64⟩) ∨ (b = gl 2 ∧ p = ⟨2, 0, 25, 25⟩) := fun b p h => by
      unfold mu0 at h
      split at h
      · rename_i e; exact .inl ⟨e, (Option.some.inj h).symm⟩
      · split at h
        · rename_i e; exact .inr ⟨e, (Option.some.inj h).symm⟩
        · cases h
    refine ⟨.refl _ w, fun b hb => ?_, fun b o p ho hp' => ?_, fun b b' o o' p p' ho hg _ _ _ _ => ?_, fun b p h => ?_, fun b hb o ho => ?_, fun p hp' => hT p hp'⟩
    · cases e : mu0 b with
      | none => rfl
      | some p =>
        rcases hmu b p e with ⟨rfl, _⟩ | ⟨rfl, _⟩
        · exact absurd hb (by decide)
        · exact absurd hb (by decide)
    · rcases hS b o ho with ⟨rfl, rfl⟩ | ⟨rfl, rfl⟩
      · obtain rfl : p = ⟨0, 0, 64, 64⟩ := (Option.some.inj hp').symm
        exact Cl.mk_flat rfl (by simp; decide) (by decide) w0 (by decide) (by simpa using vc_map (fun n => ⟨.int _ _, rfl⟩) tabN) (fun q x hx => by simpa using hx)
      · obtain rfl : p = ⟨2, 0, 25, 25⟩ := (Option.some.inj hp').symm
        exact Cl.mk_flat rfl (by simp; decide) (by decide) w2 (by decide) (by simpa using vc_map (fun n => ⟨.bool _, rfl⟩) tabB) (fun q x hx => by simpa using hx)
    · rcases hS b o ho with ⟨rfl, rfl⟩ | ⟨rfl, rfl⟩ <;> cases hg
    · rcases hmu b p h with ⟨rfl, rfl⟩ | ⟨rfl, rfl⟩
      · exact (Array.getElem?_eq_some_iff.1 w0).1
      · exact (Array.getElem?_eq_some_iff.1 w2).1
    · rcases hS b o ho with ⟨rfl, _⟩ | ⟨rfl, _⟩
      · exact absurd hb (by decide)
      · exact absurd hb (by decide)
  · rcases hS b o h with ⟨_, rfl⟩ | ⟨_, rfl⟩ <;> rfl
end
end X
